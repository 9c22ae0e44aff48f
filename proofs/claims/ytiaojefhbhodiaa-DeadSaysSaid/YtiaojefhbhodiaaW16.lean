/-
  Walk: live.through: what matters ahead of a block.
-/
import Derived.Test.YtiaojefhbhodiaaW15
import Derived.Test.YtiaojefhbhodiaaW12
set_option linter.unusedVariables false
namespace Go.Proofs.Ytiaojefhbhodiaa
open Go.RowKit Go.Shelf
attribute [local go_sem] Oper.semAt_some

theorem foldl_back (l : List Tac) (s : List Bool) : ∀ k, k ≤ l.length → (backTo l.length k).foldl (fun s i => backB l[i.1] s) s = (l.drop (l.length - k)).foldr backB s
  | 0, _ => by simp [backTo]
  | k + 1, h => by
    rw [backTo_succ _ _ (by omega), List.foldl_append, foldl_back l s k (by omega)]
    have e : l.length - (k + 1) = l.length - 1 - k := by omega
    rw [e, foldr_drop l s (l.length - 1 - k) (by omega), show l.length - 1 - k + 1 = l.length - k by omega]
    rfl

set_option maxRecDepth 100000 in
set_option maxHeartbeats 4000000 in
theorem throughL (x : Blk) (va vs : Value) (s : List Bool) (ok ok' : Nat → Prop) (w : World) (ha : Sl RTac w ok' x.ins va) (hs : Sl RB w ok s vs) (hx : x.idx s.length) (hlen : s.length ≤ 1000000) :
    Calls Try.prog 48 #[.agg #[va, .int .i64 x.fin, .int .i64 x.v, .int .i64 x.to, .int .i64 x.els], vs] w
    fun e w' => (∃ v, e = .returned v ∧ OwS Value.bool 4 w' w.heap.size (aheadB x s) v) ∧ Below w.heap.size w w' := by
  obtain ⟨A, c, rfl, hc, hn⟩ := ha.form
  have HA := Lib.hid ha; have HS := Lib.hid hs; have HX := Lib.hid hx
  clear ha hs hx
  refine (callsIn_wide (n := 10)).1 (callsIn_of_wp_marks Try.func48 rfl trivial ?_ rfl)
  refine wpIn_wide.2 ?_
  simp only [Try.ntmps48, List.size_toArray, List.length_cons, List.length_nil, Nat.reduceAdd, Nat.reduceSub, Array.replicate_succ, Array.replicate_zero, List.push_toArray, List.append_toArray, List.nil_append, List.cons_append]
  go_wp2_with fail
  refine name_world_calls (fun W0 hW0 => ?_)
  have hz : W0.heap.size = w.heap.size + 1 := by subst hW0; simp
  have HB0 : Hid (Below w.heap.size w W0) := by subst hW0; exact (by repeat (first | exact Below.refl _ _ | exact alloc1 _ _ | refine Below.drew ?_ | refine Below.alloc ?_ (by simp; try omega) _ | refine Below.setCell ?_ (by simp; try omega) _))
  have HX0 : Hid (Bx W0 w.heap.size #[.slice A x.ins.length c, .int .i64 x.fin, .int .i64 x.v, .int .i64 x.to, .int .i64 x.els] 54) := by subst hW0; exact Bx.new _ _ _
  clear hW0
  refine (endL x _ vs s ok W0 (HS.out.below HB0.out) HX.out.2 hlen).mono ?_
  rintro e W1 ⟨⟨v1, rfl, hown⟩, hb1⟩
  obtain ⟨A1, c1, rfl, hc1⟩ := hown.any
  have HO1 := Lib.hid hown
  have HB1 := Lib.hid (below0 HB0.out hb1)
  have hx1 := HX0.out.below hb1
  have HX1 := Lib.hid hx1
  have cx := hx1.cell
  have lx := hx1.lt
  have hs1 := hb1.size
  clear hown hb1 hx1
  go_wp2_with fail
  refine name_world_calls (fun W2 hW2 => ?_)
  have hz2 : W2.heap.size = W1.heap.size + 1 := by subst hW2; simp
  have HB2 : Hid (Below w.heap.size w W2) := by subst hW2; exact HB1.out.alloc HB1.out.size _
  have HV2 : Hid (Bx W2 W1.heap.size #[.slice A1 (lastB x s).length c1] 92) := by subst hW2; exact Bx.new _ _ _
  have HO2 : Hid (OwS Value.bool 4 W2 W0.heap.size (lastB x s) (.slice A1 (lastB x s).length c1)) := by subst hW2; exact HO1.out.below (alloc1 _ _)
  clear hW2
  refine (backwardT _ _ _ _).mono ?_
  rintro e W3 ⟨rfl, rfl⟩
  go_wp2_with fail
  refine name_world (fun W3 hW3 => ?_)
  have hz3 : W3.heap.size = W2.heap.size + 1 := by subst hW3; simp
  have HB3 : Hid (Below w.heap.size w W3) := by subst hW3; exact HB2.out.alloc HB2.out.size _
  have HV3 : Hid (Bx W3 W1.heap.size #[.slice A1 (lastB x s).length c1] 92) := by subst hW3; exact HV2.out.alloc _
  have HL3 : Hid (Bx W3 (W1.heap.size + 1) #[.slice A x.ins.length c] 52) := by subst hW3; exact Bx.new' hz2.symm
  have HO3 : Hid (OwS Value.bool 4 W3 W0.heap.size (lastB x s) (.slice A1 (lastB x s).length c1)) := by subst hW3; exact HO2.out.below (alloc1 _ _)
  have hown1 := HO1.out.lt
  clear hW3
  refine backLoop (t := 27) (N := x.ins.length) (bb := W1.heap.size + 1) (cs := fun i => #[.int .i64 x.ins[i.1].op, .int .i64 x.ins[i.1].d, .int .i64 x.ins[i.1].a, .int .i64 x.ins[i.1].b, .int .i64 x.ins[i.1].k, .int .i64 x.ins[i.1].base, .int .i64 x.ins[i.1].size, .int .u32 x.ins[i.1].n]) (fun b => (Value.slice A1 (lastB x s).length c1).ownBlock = some b) (fun b hb => by have := hown1 b hb; omega) rfl (enters_of Try.func66 (by kernel_rfl) rfl)
    (backT_stops x.ins A c (W1.heap.size + 1) _ W3 hn HL3.out (by rintro (h | h); · have := hown1 _ h; omega
                                                                  · omega) hc ?rows) rfl
    (fun s' W => OwS Value.bool 4 W W0.heap.size s' (.slice A1 (lastB x s).length c1) ∧ Bx W W1.heap.size #[.slice A1 (lastB x s).length c1] 92 ∧ s'.length = s.length)
    (fun s' W W' h hc => ⟨h.1.calm hc, h.2.1.calm hc, h.2.2⟩) (fun s' i => backB x.ins[i.1] s') (lastB x s) ⟨HO3.out, HV3.out, lastB_length _ _⟩
    (fun i B => [(14, .int .i64 (i.1 : Int)), (15, .agg #[.int .i64 x.ins[i.1].op, .int .i64 x.ins[i.1].d, .int .i64 x.ins[i.1].a, .int .i64 x.ins[i.1].b, .int .i64 x.ins[i.1].k, .int .i64 x.ins[i.1].base, .int .i64 x.ins[i.1].size, .int .u32 x.ins[i.1].n]), (7, .pointer (some ⟨B, 0, none⟩))]) ?assign ?body ?done
  case rows =>
    intro i
    obtain ⟨g, o, hA, hok, hlt, hr, _⟩ := (HA.out.below HB3.out).tac i.1 i.2
    obtain ⟨g', o', hA', _, hlt', _, _⟩ := HA.out.tac i.1 i.2
    rw [hA] at hA'
    cases hA'
    refine ⟨g, o, hA, hlt, ?_, hr⟩
    rintro (h | h)
    · have := (hown1 _ h).1; omega
    · omega
  case assign =>
    intro l i W K hK
    simp only [List.foldl_cons, List.foldl_nil, List.setIfInBounds_toArray, List.set_cons_succ, List.set_cons_zero] at hK
    gi_wp2
    exact hK
  case body =>
    rintro l s' i W B ⟨h1, h2, h3⟩ hfr hB hbx
    simp only [List.foldl_cons, List.foldl_nil, List.setIfInBounds_toArray, List.set_cons_succ, List.set_cons_zero]
    have c2 := h2.cell
    have cB := hbx.cell
    have l2 := h2.lt
    have lB := hbx.lt
    have H1 := Lib.hid h1; have H2 := Lib.hid h2; have HFR := Lib.hid hfr; have HBX := Lib.hid hbx
    clear h1 h2 hfr hbx
    gi_wp2
    refine ⟨trivial, (inr (aheadL x.ins[i.1] _ s' _ W H1.out (by rw [h3]; exact HX.out.1 _ (List.getElem_mem i.2)) (by omega))).mono ?_⟩
    rintro e W4 ⟨⟨u, rfl⟩, hown4, hfr4⟩
    have H4 := Lib.hid hown4; have HFR4 := Lib.hid hfr4
    clear hown4 hfr4
    gi_wp2
    exact ⟨HFR4.out, H4.out, H2.out.fr HFR4.out (fun h => by have := (hown1 _ h).2; omega), by rw [backB_length, h3]⟩
  case done =>
    rintro D W hD ⟨h1, h2, h3⟩ hfr hK
    rw [foldl_back _ _ _ (Nat.le_refl _), Nat.sub_self, List.drop_zero] at h1
    have c2 := h2.cell
    have l2 := h2.lt
    have H1 := Lib.hid h1; have HFR := Lib.hid hfr; have HK := Lib.hid hK
    clear h1 h2 hfr hK
    go_wp2_with fail
    refine ⟨by simp, .inl ⟨_, _, rfl, run_takeDeferred HK.out, ?_⟩⟩
    refine ⟨_, results_tmp rfl _ _ _, ⟨_, rfl, (H1.out.rebase (fun k hk => by have := hown1 k hk; omega)).calm (calm_put HK.out hD)⟩, below_put HK.out (by omega) ?_⟩
    exact HB3.out.trans (HFR.out.to_below (fun k hk => by have := hown1 k hk; omega) HB3.out.size)
end Go.Proofs.Ytiaojefhbhodiaa
