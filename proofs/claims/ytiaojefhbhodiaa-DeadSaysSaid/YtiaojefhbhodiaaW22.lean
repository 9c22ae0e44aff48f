/-
  Walks: what is dead is left out, once; as long as there is something.
-/
import Derived.Test.YtiaojefhbhodiaaW21
import Derived.Test.YtiaojefhbhodiaaW17
set_option linter.unusedVariables false
namespace Go.Proofs.Ytiaojefhbhodiaa
open Go.RowKit

theorem infoBlk : (Try.prog.info? 54).map (fun i => (i.zero, i.size, i.bytes)) = some (some (.agg #[.slice none 0 0, .int .i64 0, .int .i64 0, .int .i64 0, .int .i64 0]), 5, 56) := by kernel_rfl

/-- Does each pure instruction set a register? -/
def Fn.sets0 (f : Fn) : Prop := ∀ x ∈ f.blocks, ∀ t ∈ x.ins, t.pure = true → 0 ≤ t.sets
theorem behind_len (l : Lv) (x : Blk) (b : Nat) : (l.behind x b).length = x.ins.length := by
  unfold Lv.behind
  generalize lastB x (l.Out.getD b []) = s
  induction x.ins with
  | nil => rfl
  | cons t l ih => simp [behindB, ih]
theorem once_take (f : Fn) (k : Nat) (h : k < f.blocks.length) : (f.once.blocks.take (k + 1)) = f.once.blocks.take k ++ [onceBlk f.live f.blocks[k] k] := by
  have h2 : k < f.once.blocks.length := by simpa [Fn.once] using h
  rw [List.take_succ_eq_append_getElem h2]
  simp [Fn.once]
theorem liveGo_wide {n m : Nat} {bs : List Blk} (hn : n = bs.length) (hu : ∀ x ∈ bs, ∀ k ∈ nextB x, 0 ≤ k ∧ k < n) (I O : Rows) (hI : Wide n m I) (hO : Wide n m O) : Wide n m (liveGo bs I O).I ∧ Wide n m (liveGo bs I O).O := by
  rw [liveGo]
  have hw := downTo_wide (m := m) hn hI hO hu bs.length (s := ⟨I, O, false⟩)
  by_cases h : (passB bs I O).more = true
  · rw [dif_pos h]
    exact liveGo_wide hn hu (passB bs I O).I (passB bs I O).O hw.1 hw.2
  · rw [dif_neg h]
    exact hw
termination_by allFalses I
decreasing_by exact downTo_lt bs ⟨I, O, false⟩ bs.length rfl h
theorem live_wide (f : Fn) (hf : f.idx) : Wide f.blocks.length f.regs.toNat f.live.In ∧ Wide f.blocks.length f.regs.toNat f.live.Out :=
  liveGo_wide rfl hf.nxt _ _ (noRows_wide _ _) (noRows_wide _ _)

theorem getD_get2 (rows : Rows) (i : Nat) (h : i < rows.length) : rows.getD i [] = rows[i] := by rw [List.getD_eq_getElem?_getD, List.getElem?_eq_getElem h]; rfl
theorem once_take_le (f : Fn) : ∀ k, k ≤ f.blocks.length → countI (f.once.blocks.take k) ≤ countI (f.blocks.take k)
  | 0, _ => by simp
  | k + 1, h => by
    have ih := once_take_le f k (by omega)
    have h2 : k < f.once.blocks.length := by simp [Fn.once]; omega
    rw [countI_take _ _ h2, countI_take _ _ (by omega)]
    have e : f.once.blocks[k] = onceBlk f.live f.blocks[k] k := by simp [Fn.once]
    have := keepB_le f.blocks[k].ins (f.live.behind f.blocks[k] k)
    rw [e]
    show _ + (keepB _ _).length ≤ _
    omega
def someTo (f : Fn) (k : Nat) : Bool := decide (countI (f.once.blocks.take k) < countI (f.blocks.take k))
theorem someTo_succ (f : Fn) (k : Nat) (h : k < f.blocks.length) : someTo f (k + 1) = (someTo f k || decide ((keepB f.blocks[k].ins (f.live.behind f.blocks[k] k)).length < f.blocks[k].ins.length)) := by
  have h2 : k < f.once.blocks.length := by simpa [Fn.once] using h
  have h3 := once_take_le f k (by omega)
  have h4 := keepB_le f.blocks[k].ins (f.live.behind f.blocks[k] k)
  unfold someTo
  rw [countI_take _ _ h2, countI_take _ _ h]
  have e : f.once.blocks[k] = onceBlk f.live f.blocks[k] k := by simp [Fn.once]
  rw [e]
  have e2 : (onceBlk f.live f.blocks[k] k).ins = keepB f.blocks[k].ins (f.live.behind f.blocks[k] k) := rfl
  rw [e2]
  rw [Bool.eq_iff_iff]
  simp only [decide_eq_true_eq, Bool.or_eq_true]
  omega

/-- What live.Of does (proved elsewhere). -/
def OfL : Prop := ∀ (f : Fn) (va : Value) (ok : Nat → Prop) (w : World), Sl RBlk w ok f.blocks va → f.idx →
    Calls Try.prog 27 #[.agg #[.int .i64 f.regs, va]] w
    fun e w' => (∃ vi vo, e = .returned (.agg #[vi, vo]) ∧ Sl (.slice RB) w' (fun c => w.heap.size ≤ c) f.live.In vi ∧ Sl (.slice RB) w' (fun c => w.heap.size ≤ c) f.live.Out vo) ∧ Below w.heap.size w w'

set_option maxRecDepth 100000 in
set_option maxHeartbeats 8000000 in
theorem onceD (hOf : OfL) (f : Fn) (va : Value) (ok : Nat → Prop) (w : World) (ha : Sl RBlk w ok f.blocks va) (hf : f.idx) (h0 : f.sets0) (hin : ∀ x ∈ f.blocks, x.ins.length ≤ 900000) (hn9 : f.blocks.length ≤ 900000) :
    Calls Try.prog 26 #[.agg #[.int .i64 f.regs, va]] w
    fun e w' => (∃ v, e = .returned (.tuple #[.agg #[.int .i64 f.regs, v], .bool (decide (f.once.count < f.count))]) ∧ Sl RBlk w' (fun c => w.heap.size ≤ c) f.once.blocks v) ∧ Below w.heap.size w w' := by
  obtain ⟨A, c, rfl, hc, hn2⟩ := ha.form
  have HA := bk ha; have HF := bk hf
  clear ha hf
  go_enter Try.func26, Try.ntmps26
  go_wp2_with fail
  refine name_world_calls (fun W0 hW0 => ?_)
  have hz : W0.heap.size = w.heap.size + 2 := by subst hW0; simp
  have HX0 : Bk (Bx W0 w.heap.size #[.int .i64 f.regs, .slice A f.blocks.length c] 24) := by subst hW0; exact bk ((Bx.new _ _ _).alloc _)
  have HR0 : Bk (Bx W0 (w.heap.size + 1) #[.int .i64 0, .slice none 0 0] 24) := by subst hW0; exact bk (Bx.new' (by simp))
  have HB0 : Bk (Below w.heap.size w W0) := by subst hW0; exact bk (by repeat (first | exact Below.refl _ _ | exact alloc1 _ _ | refine Below.drew ?_ | refine Below.alloc ?_ (by simp; try omega) _ | refine Below.setCell ?_ (by simp; try omega) _))
  clear hW0
  refine (hOf f _ ok W0 (HA.out.below HB0.out) HF.out).mono ?_
  rintro e W1 ⟨⟨vi, vo, rfl, hI, hO⟩, hb1⟩
  obtain ⟨Ai, ci, rfl, _⟩ := hI.form
  obtain ⟨Ao, co, rfl, _⟩ := hO.form
  have HO := bk (hO.mono (ok' := fun b => b < W1.heap.size) (fun b _ h => h))
  have hx := HX0.out.below hb1
  have HX1 := bk hx
  have cx := hx.cell
  have lx := hx.lt
  have HR1 := bk (HR0.out.below hb1)
  have HB1 := bk (below0 HB0.out hb1)
  have hs01 := hb1.size
  clear hI hO hb1 hx
  go_wp2_with fail
  refine name_world (fun W2 hW2 => ?_)
  have hz2 : W2.heap.size = W1.heap.size + 2 := by subst hW2; simp
  have HB12 : Bk (Below W1.heap.size W1 W2) := by subst hW2; exact bk (by repeat (first | exact Below.refl _ _ | exact alloc1 _ _ | refine Below.drew ?_ | refine Below.alloc ?_ (by simp; try omega) _ | refine Below.setCell ?_ (by simp; try omega) _))
  have HL2 : Bk (Bx W2 W1.heap.size #[.slice Ai f.live.In.length ci, .slice Ao f.live.Out.length co] 41) := by subst hW2; exact bk ((Bx.new _ _ _).alloc _)
  have HOUT : Bk (Bx W2 (W1.heap.size + 1) #[.int .i64 f.regs, .slice none 0 0] 24) := by subst hW2; exact bk (Bx.new' (by simp))
  clear hW2 cx
  have HX2 := bk (HX1.out.below HB12.out)
  have HR2 := bk (HR1.out.below HB12.out)
  have HB2 := bk (below0 HB1.out HB12.out)
  have HO2 := bk (HO.out.below HB12.out)
  have HA2 := bk ((HA.out.mono (ok' := fun b => b < w.heap.size) (fun b _ h => h)).below HB2.out)
  have HWID := bk (live_wide f HF.out)
  clear HX1 HR1 HX0 HR0 HO
  go_loopw [6, 19] (fun sm j wr => ∃ (k : Nat) (v : Value), k ≤ f.blocks.length ∧ j = .int .i64 k ∧ sm = .bool (someTo f k) ∧ Bx wr (W1.heap.size + 1) #[.int .i64 f.regs, v] 24 ∧
    Own RBlk 54 wr W2.heap.size (fun b => W2.heap.size ≤ b ∧ b < wr.heap.size ∧ v.ownBlock ≠ some b) (f.once.blocks.take k) v ∧ Fr (fun b => b = W1.heap.size + 1 ∨ W2.heap.size ≤ b) W2 wr) (fun _ j _ => f.blocks.length - (intOf j).toNat)
  case atStart => exact ⟨0, _, Nat.zero_le _, rfl, by simp [someTo], HOUT.out, Own.nil _ _ _ _ _, Fr.refl _ _⟩
  case round =>
    obtain ⟨k, v, hk, rfl, rfl, xo, hown, hfr⟩ := hrel
    have XO := bk xo; have HOW := bk hown; have HFR := bk hfr
    have hsw := hfr.size
    have nS : ∀ y, y < W1.heap.size + 1 → ¬ (y = W1.heap.size + 1 ∨ W2.heap.size ≤ y) := fun y hy h => by omega
    have cx := (HX2.out.fr hfr (nS _ (by omega))).cell
    have cl := (HL2.out.fr hfr (nS _ (by omega))).cell
    have NS := bk nS
    clear hown xo
    by_cases hlt : k < f.blocks.length
    · obtain ⟨g, o, B, m, hA, hgw, hg, hxi, hxn, q0, q1, q2, q3, q4⟩ := (HA2.out.fr hfr (fun b hb _ => nS b (by omega))).blk k hlt
      subst hA
      have HXI := bk hxi
      clear hxi hfr nS
      have lw : w.heap.size < wr.heap.size := by omega
      have l1 : W1.heap.size < wr.heap.size := by omega
      have l2 : W1.heap.size + 1 < wr.heap.size := by omega
      go_wp2_with fail
      refine name_world_calls (fun W3 hW3 => ?_)
      have hz3 : W3.heap.size = wr.heap.size + 1 := by subst hW3; simp
      have HB3 : Bk (Below wr.heap.size wr W3) := by subst hW3; exact bk (alloc1 _ _)
      have X83 : Bk (Bx W3 wr.heap.size #[.slice B f.blocks[k].ins.length m, .int .i64 f.blocks[k].fin, .int .i64 f.blocks[k].v, .int .i64 f.blocks[k].to, .int .i64 f.blocks[k].els] 54) := by subst hW3; exact bk (Bx.new _ _ _)
      clear hW3 cx cl
      have hOl : f.live.Out.length = f.blocks.length := HWID.out.2.1
      have hko : k < f.live.Out.length := by omega
      have hol : f.live.Out[k].length = f.regs.toNat := HWID.out.2.get k hko
      have hidx := HF.out
      have hr0 := hidx.r0
      have hr1 := hidx.r1
      have hbk := hidx.blk _ (List.getElem_mem hlt)
      have hink := hin _ (List.getElem_mem hlt)
      have HF3 := bk (HFR.out.trans (Fr.of_below HB3.out _))
      refine (behindL f f.live k _ _ _ (fun b => b < w.heap.size) (fun b => b < W1.heap.size) W3 (HA2.out.fr HF3.out (fun b hb _ => NS.out b (by omega))) (HO2.out.fr HF3.out (fun b hb _ => NS.out b (by omega))) hlt hko (by rw [hol]; exact hbk) (by rw [hol]; omega) (by omega)).mono ?_
      rintro e W4 ⟨⟨vb, rfl, hvb⟩, hb4⟩
      obtain ⟨Ab, cb, rfl, _⟩ := hvb.form
      have hbl := behind_len f.live f.blocks[k] k
      have x84 := X83.out.below hb4
      have c8 := x84.cell
      have l8 := x84.lt
      have l84 : wr.heap.size < W4.heap.size + 1 := by omega
      have HB4 := bk (below0 HB3.out hb4)
      have HVB := bk hvb; have X84 := bk x84
      have HIDX := bk hbk; have HOL := bk hol; have HBL := bk hbl
      have hs4 := hb4.size
      clear hvb hb4 x84 hidx hbk hol hbl hOl
      go_wp2_with fail
      refine name_world_calls (fun W5 hW5 => ?_)
      have hz5 : W5.heap.size = W4.heap.size + 1 := by subst hW5; simp
      have HB45 : Bk (Below W4.heap.size W4 W5) := by subst hW5; exact bk (alloc1 _ _)
      have X95 : Bk (Bx W5 W4.heap.size #[.slice Ab (f.live.behind f.blocks[k] k).length cb] 31) := by subst hW5; exact bk (Bx.new _ _ _)
      clear hW5 c8
      have x85 := X84.out.below HB45.out
      have HB5 := bk (below0 HB4.out HB45.out)
      have hc85 : W5.cell? ⟨wr.heap.size, 0, none⟩ = some (.slice B f.blocks[k].ins.length m) := x85.cell 0
      have hc95 : W5.cell? ⟨W4.heap.size, 0, none⟩ = some (.slice Ab (f.live.behind f.blocks[k] k).length cb) := X95.out.cell 0
      refine (withoutT wr.heap.size W4.heap.size f.blocks[k].ins (f.live.behind f.blocks[k] k) B Ab m cb (fun b => b < w.heap.size) _ W5 hc85 (HXI.out.below HB5.out) hc95 (HVB.out.below HB45.out) HBL.out (fun i hi hp => h0 _ (List.getElem_mem hlt) _ (List.getElem_mem hi) hp)
        (fun i hi hi' => by
          have h1 := (HIDX.out.1 _ (List.getElem_mem hi)).2
          have h2 : (f.live.behind f.blocks[k] k)[i].length = f.regs.toNat := by
            have h3 := behindB_length f.blocks[k].ins (lastB f.blocks[k] (f.live.Out.getD k [])) _ (List.getElem_mem (l := f.live.behind f.blocks[k] k) hi')
            rw [lastB_length, getD_get2 _ _ hko, HOL.out] at h3
            exact h3
          rw [h2]; exact h1) hink).mono ?_
      rintro e W6 ⟨⟨vk, rfl, hvk⟩, hb6⟩
      obtain ⟨Ak, ck, rfl, _⟩ := hvk.form
      have hkl := keepB_le f.blocks[k].ins (f.live.behind f.blocks[k] k)
      have HSU := bk (someTo_succ f k hlt)
      have x86 := x85.below hb6
      have c8 := x86.cell
      have f8 := x86.frozen
      have HB6 := bk (below0 HB5.out hb6)
      have hs5 := HB5.out.size
      have hs6 := hb6.size
      have HF6 := bk (HFR.out.trans (Fr.of_below HB6.out _))
      have xo6 := XO.out.below HB6.out
      have co := xo6.cell
      have fo := xo6.frozen
      have lo := xo6.lt
      have l86 := x86.lt
      have ne1 : wr.heap.size ≠ W1.heap.size + 1 := by omega
      have ne2 : W1.heap.size + 1 ≠ wr.heap.size := by omega
      have HVK := bk (hvk.mono (ok' := fun b => W5.heap.size ≤ b ∧ b < W6.heap.size) (fun b h1 h2 => ⟨h1, h2⟩))
      have X86 := bk x86; have XO6 := bk xo6
      clear hvk hb6 x85 hc85 hc95 x86 xo6
      generalize hkeep : keepB f.blocks[k].ins (f.live.behind f.blocks[k] k) = kp at *
      have HKE := bk hkeep
      clear hkeep
      have hsm : ∃ d, d = decide (kp.length < f.blocks[k].ins.length) := ⟨_, rfl⟩
      obtain ⟨d, hd⟩ := hsm
      rw [← hd] at HSU
      generalize hs0 : someTo f k = s0 at *
      have HV0 := bk HOW.out.lt
      cases s0
      all_goals
        go_wp2_with (at_builtin; refine Stp.out ?_)
        refine Stp.mk ?_
        obtain ⟨W7, hW7⟩ : ∃ W7, W7 = W6.setCell ⟨wr.heap.size, 0, none⟩ (.slice Ak kp.length ck) := ⟨_, rfl⟩
        have FS7 : Bk (Fr (fun b => b = wr.heap.size) W6 W7) := bk (by rw [hW7]; exact (Fr.refl (fun b => b = wr.heap.size) W6).setCell (p := ⟨wr.heap.size, 0, none⟩) (fun _ => rfl) _)
        have hz7 : W7.heap.size = W6.heap.size := by rw [hW7]; simp
        rw [← hW7]
        clear hW7
        have XO7 := bk (XO6.out.fr FS7.out ne2)
        have KEEP : Bk (∀ b, b < wr.heap.size → W7.heap[b]? = wr.heap[b]?) := bk (fun b hb => (FS7.out.block b (by omega) (by omega)).trans (HB6.out.block b hb))
        have HOW7 : Bk (Own RBlk 54 W7 W2.heap.size (fun b => W2.heap.size ≤ b ∧ b < W6.heap.size ∧ v.ownBlock ≠ some b) (f.once.blocks.take k) v) := bk ((HOW.out.keep (fun b _ hlt => KEEP.out b hlt) (by omega)).mono (fun b hb _ => ⟨hb.1, by omega, hb.2.2⟩) (fun q hq h => h.2.2 hq))
        have HVK7 : Bk (Sl RTac W7 (fun b => W2.heap.size ≤ b ∧ b < W6.heap.size ∧ v.ownBlock ≠ some b) kp (.slice Ak kp.length ck)) := bk ((HVK.out.fr FS7.out (fun b hb _ => by show ¬ b = _; omega)).mono (fun b hb _ => ⟨by omega, hb.2, fun e => by have := HV0.out b e; omega⟩))
        refine Own.append RBlk (by rfl) _ _ 22 54 (.agg #[.slice none 0 0, .int .i64 0, .int .i64 0, .int .i64 0, .int .i64 0]) 56 (by rfl) Try.underlying22 infoBlk rfl W2.heap.size (fun b => W2.heap.size ≤ b ∧ b < W6.heap.size ∧ v.ownBlock ≠ some b) W7 v (f.once.blocks.take k) (onceBlk f.live f.blocks[k] k)
          [.slice Ak kp.length ck, .int .i64 f.blocks[k].fin, .int .i64 f.blocks[k].v, .int .i64 f.blocks[k].to, .int .i64 f.blocks[k].els] (by rfl) (by show Value.slice (some ⟨W6.heap.size, 0, none⟩) 1 1 = _; rw [hz7]) HOW7.out ⟨_, rfl, by rw [show (onceBlk f.live f.blocks[k] k).ins = kp from HKE.out]; exact HVK7.out⟩ (by omega) (fun b hb => by omega) (by rw [List.length_take]; omega) (by omega) ?_
        intro v3 w3 hown3 hg3 hat3 hv3
        obtain ⟨g3, c3, hv3⟩ := hv3
        have hl3 : (f.once.blocks.take k).length = k := by rw [List.length_take]; simp [Fn.once]; omega
        rw [hl3] at hv3
        subst hv3
        have xo3 := XO7.out.keep (hg3.block _ XO7.out.lt (fun e => by have := HV0.out _ e.symm; omega))
        have co3 := xo3.cell
        have fo3 := xo3.frozen
        have lo3 := xo3.lt
        have XO3 := bk xo3
        have hs3 := hg3.size
        have HO3 := bk hown3; have HAT3 := bk hat3
        have HFR3 : Bk (Fr (fun b => b = W1.heap.size + 1 ∨ W2.heap.size ≤ b) W2 w3) := bk (((HF6.out.trans (FS7.out.mono (fun b _ e => by right; omega)))).grown hg3 (fun q e _ => .inr (HV0.out q e).1))
        clear hown3 hg3 hat3 xo3 co fo
        go_wp2_with fail
        go_roundw
        case measure => simp [intOf]; omega
        case rel =>
          have FS8 : Fr (fun b => b = W1.heap.size + 1) w3 (w3.setCell ⟨W1.heap.size + 1, 1, none⟩ (.slice (some ⟨g3, 0, none⟩) (k + 1) c3)) := (Fr.refl (fun b => b = W1.heap.size + 1) w3).setCell (p := ⟨W1.heap.size + 1, 1, none⟩) (fun _ => rfl) _
          refine ⟨k + 1, .slice (some ⟨g3, 0, none⟩) (k + 1) c3, by omega, by go_num, ?_, XO3.out.set 1 _, ?_, HFR3.out.trans (FS8.mono (fun b _ e => .inl e))⟩
          · rw [HSU.out, hd]; simp
          · rw [once_take f k hlt]
            refine (HO3.out.keep (fun b hb hlt3 => FS8.block b hlt3 ?_) FS8.size).mono (fun b hb hlt3 => ⟨hb.1, hlt3, fun e => ?_⟩) (fun q hq h => h.2.2 hq)
            · show ¬ b = _
              rcases hb with hb | hb
              · omega
              · have := HO3.out.lt b hb; omega
            · rcases HAT3.out with h | ⟨b0, h, h'⟩
              · rw [h] at e; exact hb.2.2 e
              · rw [h] at e; cases e; omega
    · have hkk : k = f.blocks.length := by omega
      subst hkk
      have hol : f.once.blocks.length = f.blocks.length := by simp [Fn.once]
      have hall : f.once.blocks.take f.blocks.length = f.once.blocks := List.take_of_length_le (by omega)
      rw [hall] at HOW
      have hsl : Sl RBlk wr (fun c => W2.heap.size ≤ c) f.once.blocks v := HOW.out.sl (fun b hb _ => hb.1) (fun q hq => (HOW.out.lt q hq).1) (by omega)
      obtain ⟨Av, cv, rfl, _⟩ := hsl.form
      rw [hol] at hsl XO
      have HSL := bk hsl
      have co := XO.out.cell
      have hwz : w.heap.size + 1 < W1.heap.size := by omega
      have xr := HR2.out.fr hfr (nS _ (by omega))
      have cr := xr.cell
      have frz := xr.frozen
      have hr0 := (xr.set 0 (.int .i64 f.regs)).cell 0
      have hr1 := ((xr.set 0 (.int .i64 f.regs)).set 1 (.slice Av f.blocks.length cv)).cell 1
      simp at hr0 hr1
      have hst : someTo f f.blocks.length = decide (f.once.count < f.count) := by unfold someTo Fn.count; rw [hall, List.take_length]
      have lo := XO.out.lt
      have HBF : Bk (Below w.heap.size w wr) := bk (HB2.out.trans (HFR.out.to_below (fun b hb => by have := HB1.out.size; omega) HB2.out.size))
      have HR := bk xr
      clear hsl xr hfr
      go_wp2_with fail
      refine bodyPost_ret (v := .tuple #[  .agg #[.int .i64 f.regs, .slice Av f.blocks.length cv], .bool (someTo f f.blocks.length)]) (by simp [results, Try.results26, go_sem, hr0, hr1]) rfl ⟨⟨_, by rw [hst], ?_⟩, ?_⟩
      · exact (HSL.out.fr (((Fr.refl (fun b => b = w.heap.size + 1) wr).setCell (p := ⟨w.heap.size + 1, 0, none⟩) (fun _ => rfl) _).setCell (p := ⟨w.heap.size + 1, 1, none⟩) (fun _ => rfl) _) (fun b hb _ => by show ¬ b = _; omega)).mono (fun b hb _ => by omega)
      · exact (HBF.out.setCell (p := ⟨w.heap.size + 1, 0, none⟩) (by show w.heap.size ≤ w.heap.size + 1; omega) _).setCell (p := ⟨w.heap.size + 1, 1, none⟩) (by show w.heap.size ≤ w.heap.size + 1; omega) _
end Go.Proofs.Ytiaojefhbhodiaa
