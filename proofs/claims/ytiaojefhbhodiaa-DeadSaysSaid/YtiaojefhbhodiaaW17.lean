/-
  Walk: live.Behind: what matters behind each instruction of a block.
-/
import Derived.Test.YtiaojefhbhodiaaW16
import Derived.Test.YtiaojefhbhodiaaW18
import Derived.Test.YtiaojefhbhodiaaW10
import Derived.Deep.RegionHeld3
import Derived.Deep.CutRange
set_option linter.unusedVariables false
namespace Go.Proofs.Ytiaojefhbhodiaa
open Go.RowKit Go.Shelf
attribute [local go_sem] Oper.semAt_some

theorem foldl_behind (l : List Tac) (s : List Bool) : ∀ k, k ≤ l.length → (backTo l.length k).foldl (fun (p : List Bool × Rows) i => (backB l[i.1] p.1, p.2.set i.1 p.1)) (s, List.replicate l.length []) =
    ((l.drop (l.length - k)).foldr backB s, List.replicate (l.length - k) [] ++ behindB (l.drop (l.length - k)) s)
  | 0, _ => by simp [backTo, behindB]
  | k + 1, h => by
    rw [backTo_succ _ _ (by omega), List.foldl_append, foldl_behind l s k (by omega)]
    obtain ⟨j, hj⟩ : ∃ j, l.length - (k + 1) = j := ⟨_, rfl⟩
    have e1 : l.length - 1 - k = j := by omega
    have e2 : l.length - k = j + 1 := by omega
    have hjl : j < l.length := by omega
    simp only [List.foldl_cons, List.foldl_nil, e1, e2, hj]
    rw [foldr_drop l s j hjl, List.drop_eq_getElem_cons hjl]
    simp only [behindB, List.replicate_succ', Prod.mk.injEq, true_and]
    rw [List.set_append_left _ _ (by simp), List.set_append_right _ _ (by simp)]
    simp

theorem behindB_length (l : List Tac) (s : List Bool) : ∀ r ∈ behindB l s, r.length = s.length := by
  induction l with
  | nil => intro r h; cases h
  | cons t l ih =>
    intro r h
    rcases List.mem_cons.1 h with h | h
    · rw [h, foldr_backB_length]
    · exact ih r h

set_option maxRecDepth 100000 in
set_option maxHeartbeats 8000000 in
theorem behindL (f : Fn) (l : Lv) (b : Nat) (va vi vo : Value) (okf oko : Nat → Prop) (w : World) (ha : Sl RBlk w okf f.blocks va) (ho : Sl (.slice RB) w oko l.Out vo) (hb : b < f.blocks.length) (hbo : b < l.Out.length)
    (hx : f.blocks[b].idx l.Out[b].length) (hlen : l.Out[b].length ≤ 1000000) (hins : f.blocks[b].ins.length ≤ 1000000) :
    Calls Try.prog 40 #[.agg #[.int .i64 f.regs, va], .agg #[vi, vo], .int .i64 b] w
    fun e w' => (∃ v, e = .returned v ∧ Sl (.slice RB) w' (fun c => w.heap.size ≤ c) (l.behind f.blocks[b] b) v) ∧ Below w.heap.size w w' := by
  obtain ⟨A, c, rfl, hc, hn⟩ := ha.form
  obtain ⟨Ao, co, rfl, hco, hno⟩ := ho.form
  obtain ⟨g, o, B, m, hA, hokg, hg, hxi, hxn, q0, q1, q2, q3, q4⟩ := ha.blk b hb
  obtain ⟨go, oo, Bo, mo, hAo, hoko, hgo, hrow, hrn, r0⟩ := ho.row b hbo
  subst hA hAo
  have HA := bk hxi; have HS := bk hrow; have HX := bk hx
  have hbe : l.behind f.blocks[b] b = behindB f.blocks[b].ins (lastB f.blocks[b] l.Out[b]) := by
    unfold Lv.behind
    rw [List.getD_eq_getElem?_getD, List.getElem?_eq_getElem hbo]
    rfl
  rw [hbe]
  have hcap : f.blocks[b].ins.length ≤ m := by obtain ⟨_, _, h, h2, _⟩ := hxi.form; cases h; exact h2
  generalize f.blocks[b] = x at *
  generalize l.Out[b] = s at *
  clear ha ho hxi hrow hx hbe
  refine (callsIn_wide (n := 10)).1 (callsIn_of_wp_marks Try.func40 rfl trivial ?_ rfl)
  refine wpIn_wide.2 ?_
  simp only [Try.ntmps40, List.size_toArray, List.length_cons, List.length_nil, Nat.reduceAdd, Nat.reduceSub, Array.replicate_succ, Array.replicate_zero, List.push_toArray, List.append_toArray, List.nil_append, List.cons_append]
  go_upto_region 2 with fail
  refine name_world (fun W0 hW0 => ?_)
  obtain ⟨e1, e2⟩ := cells_eq hW0
  have hz : W0.heap.size = w.heap.size + 3 := by subst hW0; simp
  have hx3 : Bx W0 w.heap.size #[.int .i64 f.regs, .slice (some ⟨g, o, none⟩) f.blocks.length c] 24 := by subst hW0; exact ((Bx.new _ _ _).alloc _).alloc _
  have hx4 : Bx W0 (w.heap.size + 1) #[vi, .slice (some ⟨go, oo, none⟩) l.Out.length co] 41 := by subst hW0; exact (Bx.new' (by simp)).alloc _
  have hx7 : Bx W0 (w.heap.size + 1 + 1) #[.slice B x.ins.length m, .int .i64 x.fin, .int .i64 x.v, .int .i64 x.to, .int .i64 x.els] 54 := by subst hW0; exact Bx.new' (by simp)
  have B0 : Below w.heap.size w W0 := by subst hW0; exact (by repeat (first | exact Below.refl _ _ | exact alloc1 _ _ | refine Below.drew ?_ | refine Below.alloc ?_ (by simp; try omega) _ | refine Below.setCell ?_ (by simp; try omega) _))
  have k1 : W0.cell? ⟨w.heap.size + 1, 1, none⟩ = some (.slice (some ⟨go, oo, none⟩) l.Out.length co) := hx4.cell 1
  have k2 : W0.cell? ⟨go, oo + b, none⟩ = some (.slice Bo s.length mo) := (B0.cell (p := ⟨go, oo + b, none⟩) hgo).trans r0
  have k3 : W0.cell? ⟨w.heap.size + 1 + 1, 0, none⟩ = some (.slice B x.ins.length m) := hx7.cell 0
  have k4 : W0.cell? ⟨w.heap.size + 1 + 1, 1, none⟩ = some (.int .i64 x.fin) := hx7.cell 1
  have k5 : W0.cell? ⟨w.heap.size + 1 + 1, 2, none⟩ = some (.int .i64 x.v) := hx7.cell 2
  have k6 : W0.cell? ⟨w.heap.size + 1 + 1, 3, none⟩ = some (.int .i64 x.to) := hx7.cell 3
  have k7 : W0.cell? ⟨w.heap.size + 1 + 1, 4, none⟩ = some (.int .i64 x.els) := hx7.cell 4
  have hy1 : w.heap.size + 1 < W0.heap.size := by omega
  have hy2 : w.heap.size + 1 + 1 < W0.heap.size := by omega
  have hy3 : w.heap.size + 1 ≠ W0.heap.size := by omega
  have hy4 : w.heap.size + 1 + 1 ≠ W0.heap.size := by omega
  have hy5 : go ≠ W0.heap.size := by omega
  have hy6 : go < W0.heap.size := by omega
  have hy7 : W0.heap.size ≠ w.heap.size + 1 := by omega
  have hy8 : W0.heap.size ≠ w.heap.size + 1 + 1 := by omega
  have hy9 : W0.heap.size ≠ go := by omega
  have HX7 := bk hx7; have HB0 := bk B0; have HZ := bk hz
  have HEND : Bk (∀ W, Below W0.heap.size W0 W → Calls Try.prog 59 #[.agg #[.slice B x.ins.length m, .int .i64 x.fin, .int .i64 x.v, .int .i64 x.to, .int .i64 x.els], .slice Bo s.length mo] W
    fun e w' => (∃ v, e = .returned v ∧ OwS Value.bool 4 w' W.heap.size (lastB x s) v) ∧ Below W.heap.size W w') := bk fun W hW => endL x _ _ s oko W ((HS.out.below B0).below hW) HX.out.2 hlen
  clear hW0 e1 e2 hx3 hx4 hx7 B0 hz
  go_cut [8] from 12 to 23 (fun s8 wx => ∃ b8 A1 c1, s8 = .pointer (some ⟨b8, 0, none⟩) ∧ Bx wx b8 #[.slice A1 (lastB x s).length c1] 92 ∧ W0.heap.size ≤ b8 ∧ OwS Value.bool 4 wx W0.heap.size (lastB x s) (.slice A1 (lastB x s).length c1) ∧
    (Value.slice A1 (lastB x s).length c1).ownBlock ≠ some b8 ∧ Below W0.heap.size W0 wx)
  case first =>
    go_region_held3 (fun w' => w'.cell? ⟨w.heap.size + 1, 1, none⟩ = some (.slice (some ⟨go, oo, none⟩) l.Out.length co) ∧ w'.cell? ⟨go, oo + b, none⟩ = some (.slice Bo s.length mo) ∧
        w'.cell? ⟨w.heap.size + 1 + 1, 0, none⟩ = some (.slice B x.ins.length m) ∧ w'.cell? ⟨w.heap.size + 1 + 1, 1, none⟩ = some (.int .i64 x.fin) ∧ w'.cell? ⟨w.heap.size + 1 + 1, 2, none⟩ = some (.int .i64 x.v) ∧ w'.cell? ⟨w.heap.size + 1 + 1, 3, none⟩ = some (.int .i64 x.to) ∧ w'.cell? ⟨w.heap.size + 1 + 1, 4, none⟩ = some (.int .i64 x.els)) (go_keep)
      (first
        | (go_at_call 59; refine (HEND.out _ (by repeat (first | exact Below.refl _ _ | exact alloc1 _ _ | refine Below.drew ?_ | refine Below.alloc ?_ (by simp; try omega) _ | refine Below.setCell ?_ (by simp; try omega) _))).mono ?_; rintro e w1 ⟨⟨v1, rfl, hown⟩, hb1⟩; obtain ⟨A1, c1, rfl, hc1⟩ := hown.any; have HO1 := bk hown; have HB1 := bk hb1; obtain ⟨c1', f1'⟩ := bcells hb1; have hB : Below W0.heap.size W0 w1 := below0 (by repeat (first | exact Below.refl _ _ | exact alloc1 _ _ | refine Below.drew ?_ | refine Below.alloc ?_ (by simp; try omega) _ | refine Below.setCell ?_ (by simp; try omega) _)) hb1; have HBW := bk hB; have hs1 := hB.size; have hs2 := hb1.size; (try simp only [World.size_alloc, World.size_drew] at hs2); have j1 := (hB.cell (p := ⟨w.heap.size + 1, 1, none⟩) hy1).trans k1; have j2 := (hB.cell (p := ⟨go, oo + b, none⟩) hy6).trans k2; have j3 := (hB.cell (p := ⟨w.heap.size + 1 + 1, 0, none⟩) hy2).trans k3; have j4 := (hB.cell (p := ⟨w.heap.size + 1 + 1, 1, none⟩) hy2).trans k4; have j5 := (hB.cell (p := ⟨w.heap.size + 1 + 1, 2, none⟩) hy2).trans k5; have j6 := (hB.cell (p := ⟨w.heap.size + 1 + 1, 3, none⟩) hy2).trans k6; have j7 := (hB.cell (p := ⟨w.heap.size + 1 + 1, 4, none⟩) hy2).trans k7; have hz1 : w.heap.size + 1 ≠ w1.heap.size := (by omega); have hz2 : w.heap.size + 1 + 1 ≠ w1.heap.size := (by omega); have hz3 : go ≠ w1.heap.size := (by omega); have hz4 : w1.heap.size ≠ w.heap.size + 1 := (by omega); have hz5 : w1.heap.size ≠ w.heap.size + 1 + 1 := (by omega); have hz6 : w1.heap.size ≠ go := (by omega); clear hown hb1 hB))
    all_goals go_wp2_with fail
    all_goals go_meet
    · refine ⟨w1.heap.size, A1, c1, rfl, Bx.new _ _ _, hs1, ?_, ?_, HBW.out.alloc hs1 _⟩
      · exact (HO1.out.below (alloc1 _ _)).rebase (fun k hk => by have := (HO1.out.lt k hk).1; exact this)
      · intro e; have := HO1.out.lt _ e; omega
    · have hbx := ((Bx.new W0 #[.slice none 0 0] 92).drew.below HB1.out).set 0 (.slice A1 (lastB x s).length c1)
      have hne : ∀ k, (Value.slice A1 (lastB x s).length c1).ownBlock = some k → W0.heap.size < k := fun k hk => by have := (HO1.out.lt k hk).1; simp at this; omega
      refine ⟨W0.heap.size, A1, c1, rfl, hbx, Nat.le_refl _, ?_, ?_, HBW.out.setCell (p := ⟨W0.heap.size, 0, none⟩) (Nat.le_refl _) _⟩
      · exact (HO1.out.keep (fun k hk => Below.heap_setCell _ _ _ _ (by have := hne k hk; show k ≠ W0.heap.size; omega))).rebase (fun k hk => by have := hne k hk; omega)
      · intro e; have := hne _ e; omega
  case rest =>
    obtain ⟨b8, A1, c1, rfl, hb8, h08, hown, hne8, hB⟩ := hcut
    have hmk := run_mk (P := Try.prog) 31 57 (.slice none 0 0) 24 Try.underlying31 infoR rfl (by omega) x.ins.length (by omega)
    have HOW := bk hown; have HB8 := bk hb8
    have HBC := bk (below0 HB0.out hB)
    have hx7 := HX7.out.below hB
    have HX7c := bk hx7
    clear k3
    have l7 := hx7.lt
    have l7b : w.heap.size + 1 + 1 < wc.heap.size + 1 := by omega
    have k3 : wc.cell? ⟨w.heap.size + 1 + 1, 0, none⟩ = some (.slice B x.ins.length m) := hx7.cell 0
    have hsz := hB.size
    clear hown hb8 hB hx7 k1 k2 k4 k5 k6 k7 HB0 HX7
    go_wp2_with fail
    refine name_world_calls (fun W2 hW2 => ?_)
    have hz2 : W2.heap.size = wc.heap.size + 2 := by subst hW2; simp
    have HR2 : Bk (Bx W2 wc.heap.size (Array.replicate x.ins.length (.slice none 0 0)) 57) := by subst hW2; exact bk ((Bx.new _ _ _).alloc _)
    have H92 : Bk (Bx W2 (wc.heap.size + 1) #[.slice (some ⟨wc.heap.size, 0, none⟩) x.ins.length x.ins.length] 31) := by subst hW2; exact bk (Bx.new' (by simp))
    have HB82 : Bk (Bx W2 b8 #[.slice A1 (lastB x s).length c1] 92) := by subst hW2; exact bk ((HB8.out.alloc _).alloc _)
    have HO2 : Bk (OwS Value.bool 4 W2 W0.heap.size (lastB x s) (.slice A1 (lastB x s).length c1)) := by subst hW2; exact bk ((HOW.out.below (alloc1 _ _)).below (alloc1 _ _))
    have HBC2 : Bk (Below w.heap.size w W2) := by subst hW2; exact bk ((HBC.out.alloc HBC.out.size _).alloc (by have := HBC.out.size; simp; omega) _)
    clear hW2
    refine (backwardT _ _ _ _).mono ?_
    rintro e W3 ⟨rfl, rfl⟩
    go_wp2_with fail
    refine name_world (fun W3 hW3 => ?_)
    have hz3 : W3.heap.size = W2.heap.size + 1 := by subst hW3; simp
    have HR3 : Bk (Bx W3 wc.heap.size (Array.replicate x.ins.length (.slice none 0 0)) 57) := by subst hW3; exact bk (HR2.out.alloc _)
    have H93 : Bk (Bx W3 (wc.heap.size + 1) #[.slice (some ⟨wc.heap.size, 0, none⟩) x.ins.length x.ins.length] 31) := by subst hW3; exact bk (H92.out.alloc _)
    have HB83 : Bk (Bx W3 b8 #[.slice A1 (lastB x s).length c1] 92) := by subst hW3; exact bk (HB82.out.alloc _)
    have HO3 : Bk (OwS Value.bool 4 W3 W0.heap.size (lastB x s) (.slice A1 (lastB x s).length c1)) := by subst hW3; exact bk (HO2.out.below (alloc1 _ _))
    have HBC3 : Bk (Below w.heap.size w W3) := by subst hW3; exact bk (HBC2.out.alloc HBC2.out.size _)
    have HL3 : Bk (Bx W3 (wc.heap.size + 2) #[.slice B x.ins.length m] 52) := by subst hW3; exact bk (Bx.new' hz2.symm)
    have hown1 := HOW.out.lt
    clear hW3
    refine backLoop (t := 27) (N := x.ins.length) (bb := wc.heap.size + 2) (cs := fun i => #[.int .i64 x.ins[i.1].op, .int .i64 x.ins[i.1].d, .int .i64 x.ins[i.1].a, .int .i64 x.ins[i.1].b, .int .i64 x.ins[i.1].k, .int .i64 x.ins[i.1].base, .int .i64 x.ins[i.1].size, .int .u32 x.ins[i.1].n]) (fun k => (Value.slice A1 (lastB x s).length c1).ownBlock = some k ∨ k = wc.heap.size)
      ?hS rfl (enters_of Try.func66 (by kernel_rfl) rfl)
      (backT_stops x.ins B m (wc.heap.size + 2) _ W3 (by omega) HL3.out ?hT hcap ?rows) rfl
      (fun (p : List Bool × Rows) W => OwS Value.bool 4 W W0.heap.size p.1 (.slice A1 (lastB x s).length c1) ∧ p.1.length = s.length ∧ Bx W b8 #[.slice A1 (lastB x s).length c1] 92 ∧ Bx W (wc.heap.size + 1) #[.slice (some ⟨wc.heap.size, 0, none⟩) x.ins.length x.ins.length] 31 ∧
        ∃ vals : List Value, vals.length = x.ins.length ∧ p.2.length = x.ins.length ∧ Bx W wc.heap.size vals.toArray 57 ∧ ∀ i (h : i < vals.length) (h' : i < p.2.length), OwS Value.bool 4 W W3.heap.size p.2[i] vals[i])
      (fun p W W' h hc => by obtain ⟨h1, h2, h3, h4, vals, h5, h6, h7, h8⟩ := h; exact ⟨h1.calm hc, h2, h3.calm hc, h4.calm hc, vals, h5, h6, h7.calm hc, fun i a b => (h8 i a b).calm hc⟩)
      (fun p i => (backB x.ins[i.1] p.1, p.2.set i.1 p.1)) (lastB x s, List.replicate x.ins.length [])
      ⟨HO3.out, lastB_length _ _, HB83.out, H93.out, List.replicate x.ins.length (.slice none 0 0), by simp, by simp, by simpa using HR3.out, fun i h h' => by simp only [List.getElem_replicate]; exact OwS.nil' _ _⟩
      (fun i B => [(31, .int .i64 (i.1 : Int)), (32, .agg #[.int .i64 x.ins[i.1].op, .int .i64 x.ins[i.1].d, .int .i64 x.ins[i.1].a, .int .i64 x.ins[i.1].b, .int .i64 x.ins[i.1].k, .int .i64 x.ins[i.1].base, .int .i64 x.ins[i.1].size, .int .u32 x.ins[i.1].n]), (10, .int .i64 (i.1 : Int)), (11, .pointer (some ⟨B, 0, none⟩))]) ?assign ?body ?done
    case hS =>
      rintro k (hk | hk)
      · have := hown1 k hk; omega
      · omega
    case hT =>
      rintro ((h | h) | h)
      · have := hown1 _ h; omega
      · omega
      · omega
    case rows =>
      intro i
      obtain ⟨g', o', hA, hok, hlt, hr, _⟩ := (HA.out.below HBC3.out).tac i.1 i.2
      obtain ⟨g2, o2, hA', _, hlt', _, _⟩ := HA.out.tac i.1 i.2
      rw [hA] at hA'
      cases hA'
      refine ⟨g', o', hA, hlt, ?_, hr⟩
      have := HBC.out.size
      rintro ((h | h) | h)
      · have := (hown1 _ h).1; omega
      · omega
      · have := HBC3.out.size; omega
    case assign =>
      intro l i W K hK
      simp only [List.foldl_cons, List.foldl_nil, List.setIfInBounds_toArray, List.set_cons_succ, List.set_cons_zero] at hK
      gi_wp2
      exact hK
    case body =>
      rintro l p i W B ⟨h1, h2, h3, h4, vals, h5, h6, h7, h8⟩ hfr hB hbx
      obtain ⟨s', rows⟩ := p
      dsimp only at h1 h2 h6 h8 ⊢
      simp only [List.foldl_cons, List.foldl_nil, List.setIfInBounds_toArray, List.set_cons_succ, List.set_cons_zero]
      have c8 : W.cell? ⟨b8, 0, none⟩ = _ := h3.cell 0
      have c9 : W.cell? ⟨wc.heap.size + 1, 0, none⟩ = _ := h4.cell 0
      have l8 := h3.lt
      have l9 := h4.lt
      have H1 := bk h1; have H2 := bk h2; have H3 := bk h3; have H4 := bk h4; have H7 := bk h7; have H8 := bk h8; have HFR := bk hfr; have HBX := bk hbx
      clear h1 h2 h3 h4 h7 h8 hfr hbx
      gi_wp2_with fail
      refine wpIn_region_held 3 (fun w' => w'.cell? ⟨b8, 0, none⟩ = some (.slice A1 (lastB x s).length c1) ∧ w'.cell? ⟨wc.heap.size + 1, 0, none⟩ = some (.slice (some ⟨wc.heap.size, 0, none⟩) x.ins.length x.ins.length)) (by kernel_rfl) (by kernel_rfl) (fun c a w h => h) (by rintro ⟨a, w, h⟩; exact h) ⟨c8, c9⟩ ?_
      simp only [List.take_succ_cons, List.take_zero, List.drop_succ_cons, List.drop_zero]
      iterate 3
        refine wpHeld_step ?_ (by rfl) ?_ ?_
        rotate_left 1
        · intro w hSw
          obtain ⟨s1, s2⟩ := hSw
          go_simp
          with_reducible rfl
        simp only [Act.put, List.setIfInBounds_toArray, List.set_cons_zero, List.set_cons_succ]
      refine wpHeld_nil ?_
      refine wpSeqH_step (fun K hK => ?_)
      go_simp
      have hsl := H2.out
      refine (cloneL _ s' (fun _ => True) W.drew ((H1.out.sl (h1 := fun _ => rfl) (ok := fun _ => True) (fun _ _ => trivial) (by omega)).drew) (by omega)).mono ?_
      rintro e w1 ⟨⟨v2, rfl, hown2⟩, hb1⟩
      obtain ⟨A2, c2, rfl, hc2⟩ := hown2.any
      have hB1 := undrew hb1
      have j8 := (hB1.cell (p := ⟨b8, 0, none⟩) l8).trans c8
      have j9 := (hB1.cell (p := ⟨wc.heap.size + 1, 0, none⟩) l9).trans c9
      have hi := i.2
      have hi2 : i.1 < vals.length := by omega
      have hx7 := H7.out.below hB1
      have cR := hx7.cell i.1
      simp only [List.getElem?_toArray, List.getElem?_eq_getElem hi2] at cR
      have fR := hx7.frozen i.1
      have cB := (HBX.out.below hB1).cell
      have hs0 := HBC.out.size
      have hlc := (HBX.out.below hB1).lt
      have hsW := HFR.out.size
      have ne1 : b8 ≠ wc.heap.size := by have := HB8.out.lt; omega
      have ne2 : B ≠ wc.heap.size := by omega
      have ne3 : wc.heap.size ≠ b8 := ne1.symm
      have ne4 : wc.heap.size ≠ B := ne2.symm
      have ne5 : wc.heap.size + 1 ≠ wc.heap.size := by omega
      have ne6 : wc.heap.size ≠ wc.heap.size + 1 := by omega
      have HOWN2 := bk hown2; have HB1 := bk hB1; have HX7 := bk hx7
      generalize vals[i.1] = val0 at cR
      clear hown2 hb1 hB1 hx7
      refine hK _ _ ⟨j8, j9⟩ ?_
      clear hK K
      refine wpSeqH_step (fun K hK => ?_)
      go_simp
      refine hK _ _ ⟨j8, j9⟩ ?_
      clear hK K
      refine wpSeqH_step (fun K hK => ?_)
      go_simp
      refine hK _ _ ⟨?_, ?_⟩ ?_
      · rw [((Fr.refl (fun k => k = wc.heap.size) w1).setCell (p := ⟨wc.heap.size, i.1, none⟩) (fun _ => rfl) _).cells b8 0 (by have := HB1.out.size; omega) ne1]; exact j8
      · rw [((Fr.refl (fun k => k = wc.heap.size) w1).setCell (p := ⟨wc.heap.size, i.1, none⟩) (fun _ => rfl) _).cells (wc.heap.size + 1) 0 (by have := HB1.out.size; omega) ne5]; exact j9
      clear hK K
      refine wpSeqH_nil ?_
      gi_wp2_with fail
      have hset : Fr (fun k => k = wc.heap.size) w1 (w1.setCell ⟨wc.heap.size, i.1, none⟩ (.slice A2 s.length c2)) := (Fr.refl (fun k => k = wc.heap.size) w1).setCell (p := ⟨wc.heap.size, i.1, none⟩) (fun _ => rfl) _
      have HSET := bk hset
      have HC7 := bk (HX7.out.set i.1 (.slice A2 s.length c2))
      clear hset
      have hown2 := HOWN2.out
      rw [hsl] at hown2
      have HOWN3 := bk hown2
      clear hown2
      refine ⟨trivial, (inr (aheadL x.ins[i.1] _ s' W0.heap.size _ ((H1.out.below HB1.out).fr HSET.out (fun k hk e => by have := (hown1 k hk).2; omega)) (by rw [H2.out]; exact HX.out.1 _ (List.getElem_mem i.2)) (by omega))).mono ?_⟩
      rintro e W6 ⟨⟨u, rfl⟩, hown6, hfr6⟩
      have H6 := bk hown6; have HFR6 := bk hfr6
      have HFS : Bk (Fr (fun k => (Value.slice A1 (lastB x s).length c1).ownBlock = some k ∨ k = wc.heap.size) W W6) := bk (((Fr.of_below HB1.out _).step HSET.out (fun k _ h => .inr h)).step hfr6 (fun k _ h => .inl h))
      clear hown6 hfr6
      gi_wp2_with fail
      have hnb8 : ¬ ((Value.slice A1 (lastB x s).length c1).ownBlock = some b8 ∨ b8 = wc.heap.size) := by
        rintro (h | h)
        · exact hne8 h
        · exact ne1 h
      have hnw : ¬ ((Value.slice A1 (lastB x s).length c1).ownBlock = some (wc.heap.size + 1) ∨ wc.heap.size + 1 = wc.heap.size) := by
        rintro (h | h)
        · have := (hown1 _ h).2; omega
        · omega
      refine ⟨HFS.out, H6.out, by rw [backB_length]; exact H2.out, H3.out.fr HFS.out hnb8, H4.out.fr HFS.out hnw, vals.set i.1 (.slice A2 s.length c2), by simp [h5], by simp [h6], ?_, ?_⟩
      · have h := HC7.out.fr HFR6.out (fun h => by have := (hown1 _ h).2; omega)
        simpa using h
      · intro i' hv hr
        simp only [List.length_set] at hv hr
        by_cases e : i.1 = i'
        · subst e
          simp only [List.getElem_set_self]
          refine ((HOWN3.out.fr HSET.out (fun k hk e => ?_)).fr HFR6.out (fun k hk e => ?_)).rebase (fun k hk => ?_)
          · have := (HOWN3.out.lt k hk).1; simp at this; omega
          · have := (HOWN3.out.lt k hk).1; have := (hown1 k e).2; simp at *; omega
          · have := (HOWN3.out.lt k hk).1; simp at this; omega
        · rw [List.getElem_set_ne e, List.getElem_set_ne e]
          have h := H8.out i' (by omega) (by omega)
          refine h.fr HFS.out (fun k hk e => ?_)
          have h9 := (h.lt k hk).1
          rcases e with e | e
          · have := (hown1 k e).2; omega
          · omega
    case done =>
      rintro D W hD ⟨h1, h2, h3, h4, vals, h5, h6, h7, h8⟩ hfr hK
      obtain ⟨p, hp⟩ : ∃ p, p = List.foldl (fun (p : List Bool × Rows) i => (backB x.ins[i.1] p.1, p.2.set i.1 p.1)) (lastB x s, List.replicate x.ins.length []) (backTo x.ins.length x.ins.length) := ⟨_, rfl⟩
      rw [← hp] at h1 h2 h6
      have h8' : ∀ i (h : i < vals.length) (h' : i < p.2.length), OwS Value.bool 4 W W3.heap.size p.2[i] vals[i] := by rw [hp]; exact h8
      have hp2 : p.2 = behindB x.ins (lastB x s) := by rw [hp, foldl_behind _ _ _ (Nat.le_refl _)]; simp
      clear h8
      have c9 : W.cell? ⟨wc.heap.size + 1, 0, none⟩ = _ := h4.cell 0
      have HFR := bk hfr; have HK := bk hK
      have H7 := bk h7; have H8 := bk h8'; have H6 := bk h6
      clear h1 h2 h3 h4 h7 h8' hfr hK hp h6
      go_wp2_with fail
      refine ⟨by simp, .inl ⟨_, _, rfl, run_takeDeferred HK.out, ?_⟩⟩
      have hcal := calm_put HK.out (n := 0) (Nat.zero_le _)
      have hBW : Below w.heap.size w W := HBC3.out.trans (HFR.out.to_below (fun k hk => by
        have := HBC.out.size
        rcases hk with hk | hk
        · have := (hown1 k hk).1; omega
        · omega) HBC3.out.size)
      refine ⟨_, results_tmp rfl _ _ _, ⟨_, rfl, ?_⟩, below_put HK.out (by have := HBC3.out.size; omega) hBW⟩
      have hln : p.2.length = x.ins.length := H6.out
      have hr := rows_sl (base := W3.heap.size) (b0 := w.heap.size) (e := 4) (rows := p.2) (H7.out.calm hcal) (by omega) (by omega) (by have := HBC.out.size; omega) (by have := HBC3.out.size; omega)
        (fun i a b => ⟨(H8.out i a b).calm hcal, ?_⟩)
      · rw [hln, hp2] at hr
        exact hr
      · have hb := List.getElem_mem b
        have hrl : ∀ r ∈ p.2, r.length ≤ 1000000 := by rw [hp2]; intro r hr; rw [behindB_length _ _ r hr, lastB_length]; exact hlen
        exact hrl _ hb
end Go.Proofs.Ytiaojefhbhodiaa
