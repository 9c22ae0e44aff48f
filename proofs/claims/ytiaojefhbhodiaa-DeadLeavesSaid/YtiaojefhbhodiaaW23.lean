/-
  Walk: dead.Of: a function without what is dead, and the certificate.
-/
import Derived.Test.YtiaojefhbhodiaaW22
set_option linter.unusedVariables false
namespace Go.Proofs.Ytiaojefhbhodiaa
open Go.RowKit

theorem mem_keepB (l : List Tac) : ∀ (rs : Rows) (t : Tac), t ∈ keepB l rs → t ∈ l := by
  induction l with
  | nil => intro rs t h; simp [keepB] at h
  | cons a l ih =>
    intro rs t h
    cases rs with
    | nil => simp [keepB] at h
    | cons r rs =>
      unfold keepB at h
      split at h
      · exact List.mem_cons_of_mem _ (ih rs t h)
      · rcases List.mem_cons.1 h with h | h
        · exact h ▸ List.mem_cons_self
        · exact List.mem_cons_of_mem _ (ih rs t h)
/-- May a function be told, with what pure instructions set, and its sizes? -/
structure Fn.ok (f : Fn) : Prop where
  idx : f.idx
  sets : f.sets0
  ins : ∀ x ∈ f.blocks, x.ins.length ≤ 900000
  len : f.blocks.length ≤ 900000
theorem mem_once (f : Fn) (y : Blk) (h : y ∈ f.once.blocks) : ∃ x ∈ f.blocks, (∀ t ∈ y.ins, t ∈ x.ins) ∧ y.ins.length ≤ x.ins.length ∧ y.fin = x.fin ∧ y.v = x.v ∧ y.to = x.to ∧ y.els = x.els := by
  obtain ⟨i, hi, rfl⟩ := List.getElem_of_mem h
  have hi' : i < f.blocks.length := by simpa [Fn.once] using hi
  refine ⟨f.blocks[i], List.getElem_mem hi', ?_⟩
  have e : f.once.blocks[i] = onceBlk f.live f.blocks[i] i := by simp [Fn.once]
  rw [e]
  exact ⟨fun t ht => mem_keepB _ _ t ht, keepB_le _ _, rfl, rfl, rfl, rfl⟩
theorem once_ok (f : Fn) (h : f.ok) : f.once.ok := by
  have hl : f.once.blocks.length = f.blocks.length := by simp [Fn.once]
  refine ⟨⟨h.idx.r0, h.idx.r1, by rw [hl]; exact h.idx.n1, fun y hy => ?_, fun y hy k hk => ?_⟩, fun y hy t ht hp => ?_, fun y hy => ?_, by rw [hl]; exact h.len⟩
  · obtain ⟨x, hx, h1, _, h3, h4, _⟩ := mem_once f y hy
    have := h.idx.blk x hx
    exact ⟨fun t ht => this.1 t (h1 t ht), fun e => by rw [h4]; exact this.2 (h3 ▸ e)⟩
  · obtain ⟨x, hx, _, _, h3, h4, h5, h6⟩ := mem_once f y hy
    rw [hl]
    refine h.idx.nxt x hx k ?_
    unfold nextB at hk ⊢
    rw [← h3, ← h5, ← h6]
    exact hk
  · obtain ⟨x, hx, h1, _⟩ := mem_once f y hy
    exact h.sets x hx t (h1 t ht) hp
  · obtain ⟨x, hx, _, h2, _⟩ := mem_once f y hy
    exact Nat.le_trans h2 (h.ins x hx)
theorem dead_step (f : Fn) (h : f.once.count < f.count) : f.dead = f.once.dead := by rw [Fn.dead, dif_pos h]
theorem dead_end (f : Fn) (h : ¬ f.once.count < f.count) : f.dead = f.once := by rw [Fn.dead, dif_neg h]

set_option maxRecDepth 100000 in
set_option maxHeartbeats 8000000 in
theorem deadOf (hOf : OfL) (f : Fn) (va : Value) (ok : Nat → Prop) (w : World) (ha : Sl RBlk w ok f.blocks va) (hf : f.ok) :
    Calls Try.prog 13 #[.agg #[.int .i64 f.regs, va]] w
    fun e w' => (∃ v vs, e = .returned (.tuple #[.agg #[.int .i64 f.regs, v], .agg #[vs]]) ∧ Sl RBlk w' (fun c => w.heap.size ≤ c) f.dead.blocks v ∧ Sl (.slice RB) w' (fun c => w.heap.size ≤ c) f.dead.live.In vs) ∧ Below w.heap.size w w' := by
  obtain ⟨A, c, rfl, hc, hn2⟩ := ha.form
  have HA := bk ha; have HF := bk hf
  clear ha hf
  go_enter Try.func13, Try.ntmps13
  go_wp2_with fail
  refine name_world_calls (fun W0 hW0 => ?_)
  have hz : W0.heap.size = w.heap.size + 3 := by subst hW0; simp
  have HR0 : Bk (Bx W0 (w.heap.size + 1) #[.int .i64 0, .slice none 0 0] 24) := by subst hW0; exact bk ((Bx.new' (by simp)).alloc _)
  have HC0 : Bk (Bx W0 (w.heap.size + 1 + 1) #[.slice none 0 0] 33) := by subst hW0; exact bk (Bx.new' (by simp))
  have HB0 : Bk (Below w.heap.size w W0) := by subst hW0; exact bk (by repeat (first | exact Below.refl _ _ | exact alloc1 _ _ | refine Below.drew ?_ | refine Below.alloc ?_ (by simp; try omega) _ | refine Below.setCell ?_ (by simp; try omega) _))
  clear hW0
  refine (onceD hOf f _ ok W0 (HA.out.below HB0.out) HF.out.idx HF.out.sets HF.out.ins HF.out.len).mono ?_
  rintro e W1 ⟨⟨v0, rfl, hv0⟩, hb1⟩
  obtain ⟨A0, c0, rfl, _⟩ := hv0.form
  have HV0 := bk (hv0.mono (ok' := fun b => W0.heap.size ≤ b ∧ b < W1.heap.size) (fun b h1 h2 => ⟨h1, h2⟩))
  have HR1 := bk (HR0.out.below hb1)
  have HC1 := bk (HC0.out.below hb1)
  have HB1 := bk (below0 HB0.out hb1)
  have hs1 := hb1.size
  clear hv0 hb1
  go_wp2_with fail
  refine name_world (fun W2 hW2 => ?_)
  have hz2 : W2.heap.size = W1.heap.size + 1 := by subst hW2; simp
  have HB12 : Bk (Below W1.heap.size W1 W2) := by subst hW2; exact bk (alloc1 _ _)
  have HOUT : Bk (Bx W2 W1.heap.size #[.int .i64 f.regs, .slice A0 f.once.blocks.length c0] 24) := by subst hW2; exact bk (Bx.new _ _ _)
  clear hW2
  have HR2 := bk (HR1.out.below HB12.out)
  have HC2 := bk (HC1.out.below HB12.out)
  have HV2 := bk (HV0.out.below HB12.out)
  have HB2 := bk (below0 HB1.out HB12.out)
  go_loopg [5] f.count (fun gn sm wr => ∃ (p : Fn) (v : Value), sm = .bool (decide (p.once.count < p.count)) ∧ gn = p.count ∧ p.regs = f.regs ∧ p.dead = f.dead ∧ p.ok ∧ Bx wr W1.heap.size #[.int .i64 f.regs, v] 24 ∧
    Sl RBlk wr (fun b => W0.heap.size ≤ b ∧ b ≠ W1.heap.size) p.once.blocks v ∧ Fr (fun b => b = W1.heap.size ∨ W2.heap.size ≤ b) W2 wr)
  case atStart => exact ⟨f, _, rfl, rfl, rfl, rfl, HF.out, HOUT.out, HV2.out.mono (fun b hb _ => ⟨hb.1, by omega⟩), Fr.refl _ _⟩
  case round =>
    obtain ⟨p, v, rfl, rfl, hreg, hdead, hok, xo, hv, hfr⟩ := hrel
    obtain ⟨Av, cv, rfl, _⟩ := hv.form
    have XO := bk xo; have HV := bk hv; have HFR := bk hfr; have HOK := bk hok; have HD := bk hdead; have HREG := bk hreg
    have cx := xo.cell
    have fx := xo.frozen
    have lx := xo.lt
    have hsw := hfr.size
    clear xo hv hfr hok hdead hreg
    cases hd : decide (p.once.count < p.count) with
    | true =>
      have hon := onceD hOf p.once _ _ wr HV.out (once_ok p HOK.out).idx (once_ok p HOK.out).sets (once_ok p HOK.out).ins (once_ok p HOK.out).len
      rw [show p.once.regs = f.regs from HREG.out] at hon
      have HON := bk hon
      clear hon
      go_wp2_with fail
      refine HON.out.mono ?_
      rintro e W4 ⟨⟨v4, rfl, hv4⟩, hb4⟩
      obtain ⟨A4, c4, rfl, _⟩ := hv4.form
      have xo4 := XO.out.below hb4
      have cx4 := xo4.cell
      have fx4 := xo4.frozen
      have lx4 := xo4.lt
      have XO4 := bk xo4
      have HV4 := bk hv4
      have HB4 := bk hb4
      have hs4 := hb4.size
      clear xo4 hv4 hb4 cx fx
      have hlt := of_decide_eq_true hd
      go_wp2_with fail
      go_roundg p.once.count
      case measure => exact hlt
      case rel =>
        have FS : Fr (fun b => b = W1.heap.size) W4 ((W4.setCell ⟨W1.heap.size, 0, none⟩ (.int .i64 f.regs)).setCell ⟨W1.heap.size, 1, none⟩ (.slice A4 p.once.once.blocks.length c4)) := ((Fr.refl (fun b => b = W1.heap.size) W4).setCell (p := ⟨W1.heap.size, 0, none⟩) (fun _ => rfl) _).setCell (p := ⟨W1.heap.size, 1, none⟩) (fun _ => rfl) _
        refine ⟨p.once, _, rfl, rfl, HREG.out, ?_, once_ok p HOK.out, (XO4.out.set 0 _).set 1 _, (HV4.out.fr FS (fun b hb _ => by show ¬ b = _; omega)).mono (fun b hb _ => by omega), ?_⟩
        · rw [← HD.out, dead_step p hlt]
        · exact (HFR.out.trans (Fr.of_below HB4.out _)).trans (FS.mono (fun b _ e => .inl e))
    | false =>
      have HDE : Bk (p.once = f.dead) := bk (by rw [← HD.out, dead_end p (of_decide_eq_false hd)])
      have HOK2 := bk (once_ok p HOK.out)
      have HLV := bk (fun (W : World) (h : Sl RBlk W (fun b => W0.heap.size ≤ b ∧ b ≠ W1.heap.size) p.once.blocks (.slice Av p.once.blocks.length cv)) => hOf p.once _ _ W h HOK2.out.idx)
      rw [show p.once.regs = f.regs from HREG.out] at HLV
      have hc0 : wr.cell? ⟨W1.heap.size, 0, none⟩ = some (.int .i64 f.regs) := XO.out.cell 0
      have hc1 : wr.cell? ⟨W1.heap.size, 1, none⟩ = some (.slice Av p.once.blocks.length cv) := XO.out.cell 1
      have xr := HR2.out.fr HFR.out (by omega)
      have xc := HC2.out.fr HFR.out (by omega)
      have HBF : Bk (Below w.heap.size w wr) := bk (HB2.out.trans (HFR.out.to_below (fun b hb => by omega) HB2.out.size))
      have XR := bk xr; have XC := bk xc
      have lr := xr.lt
      have lc := xc.lt
      clear xr xc cx fx
      go_upto_region 4 with fail
      refine wp_region_noPanic ?_
      refine wp_region_mix [true, true, false, true, true, false, false] (fun w' => w'.cell? ⟨W1.heap.size, 0, none⟩ = some (.int .i64 f.regs) ∧ w'.cell? ⟨W1.heap.size, 1, none⟩ = some (.slice Av p.once.blocks.length cv)) (by kernel_rfl) (by kernel_rfl) (by kernel_rfl) (fun c a w h => h) ⟨hc0, hc1⟩ ?_
      iterate 2
        refine wpMix_held ?_ (by rfl) ?_ ?_
        rotate_left 1
        · intro w hSw
          obtain ⟨s1, s2⟩ := hSw
          go_simp
          with_reducible rfl
        simp only [Act.put, List.setIfInBounds_toArray, List.set_cons_zero, List.set_cons_succ]
      refine wpMix_step (fun K hK => ?_)
      go_simp
      refine (HLV.out _ HV.out.drew).mono ?_
      rintro e W5 ⟨⟨vi, vo, rfl, hI, hO⟩, hb5⟩
      obtain ⟨Ai, ci, rfl, _⟩ := hI.form
      obtain ⟨Ao, co, rfl, _⟩ := hO.form
      have hfd : ∀ w : World, (Instr.field 41 (.agg #[.slice Ai p.once.live.In.length ci, .slice Ao p.once.live.Out.length co]) 0).run Try.prog w = .ok (.slice Ai p.once.live.In.length ci) w := fun _ => by kernel_rfl
      have hb5' := undrew hb5
      have h50 := cell_below hb5' hc0
      have h51 := cell_below hb5' hc1
      have xr5 := XR.out.below hb5'
      have xc5 := XC.out.below hb5'
      have cr5 := xr5.cell
      have fr5 := xr5.frozen
      have cc5 := xc5.cell
      have fc5 := xc5.frozen
      have l15 := xr5.lt
      have HI := bk hI; have HB5 := bk hb5'; have XR5 := bk xr5; have XC5 := bk xc5
      have hs5 := hb5'.size
      clear hI hO hb5 hb5' xr5 xc5
      refine hK _ _ ⟨h50, h51⟩ ?_
      clear hK K
      try simp only [Act.put, List.setIfInBounds_toArray, List.set_cons_zero, List.set_cons_succ]
      iterate 2
        refine wpMix_held ?_ (by rfl) ?_ ?_
        rotate_left 1
        · intro w hSw
          obtain ⟨s1, s2⟩ := hSw
          go_simp
          with_reducible rfl
        simp only [Act.put, List.setIfInBounds_toArray, List.set_cons_zero, List.set_cons_succ]
      have hne1 : w.heap.size + 1 ≠ w.heap.size + 1 + 1 := by omega
      have hne2 : w.heap.size + 1 + 1 ≠ w.heap.size + 1 := by omega
      refine wpMix_step (fun K hK => ?_)
      go_simp
      have FS1 : Fr (fun b => b = w.heap.size + 1 ∨ b = w.heap.size + 1 + 1) W5 ((W5.setCell ⟨w.heap.size + 1, 0, none⟩ (.int .i64 f.regs)).setCell ⟨w.heap.size + 1, 1, none⟩ (.slice Av p.once.blocks.length cv)) := ((Fr.refl (fun b => b = w.heap.size + 1 ∨ b = w.heap.size + 1 + 1) W5).setCell (p := ⟨w.heap.size + 1, 0, none⟩) (fun _ => .inl rfl) _).setCell (p := ⟨w.heap.size + 1, 1, none⟩) (fun _ => .inl rfl) _
      have FS2 := FS1.setCell (p := ⟨w.heap.size + 1 + 1, 0, none⟩) (fun _ => .inr rfl) (.slice Ai p.once.live.In.length ci)
      have nS1 : ¬ (W1.heap.size = w.heap.size + 1 ∨ W1.heap.size = w.heap.size + 1 + 1) := by omega
      refine hK _ _ ⟨fr_cell (a := ⟨W1.heap.size, 0, none⟩) FS1 h50 nS1, fr_cell (a := ⟨W1.heap.size, 1, none⟩) FS1 h51 nS1⟩ ?_
      clear hK K
      try simp only [Act.put, List.setIfInBounds_toArray, List.set_cons_zero, List.set_cons_succ]
      have xr6 := ((XR5.out.set 0 (.int .i64 f.regs)).set 1 (.slice Av p.once.blocks.length cv)).other ⟨w.heap.size + 1 + 1, 0, none⟩ (.slice Ai p.once.live.In.length ci) hne1
      have xc6 := ((XC5.out.other ⟨w.heap.size + 1, 0, none⟩ (.int .i64 f.regs) hne2).other ⟨w.heap.size + 1, 1, none⟩ (.slice Av p.once.blocks.length cv) hne2).set 0 (.slice Ai p.once.live.In.length ci)
      have hr0 := xr6.cell 0
      have hr1 := xr6.cell 1
      have hr2 := xc6.cell 0
      simp at hr0 hr1 hr2
      clear xr6 xc6
      have HFS1 := bk FS1; have HFS2 := bk FS2
      clear FS1
      refine wpMix_step (fun K hK => ?_)
      go_simp
      refine hK _ _ ⟨fr_cell (a := ⟨W1.heap.size, 0, none⟩) FS2 h50 nS1, fr_cell (a := ⟨W1.heap.size, 1, none⟩) FS2 h51 nS1⟩ ?_
      clear hK K FS2
      refine wpMix_nil ?_
      refine NoPanic.normal ?_
      go_wp2_with fail
      refine bodyPost_ret (v := .tuple #[.agg #[.int .i64 f.regs, .slice Av p.once.blocks.length cv], .agg #[.slice Ai p.once.live.In.length ci]]) (by simp [results, Try.results13, go_sem, hr0, hr1, hr2]) rfl ⟨⟨_, _, rfl, ?_, ?_⟩, ?_⟩
      · rw [← HDE.out]
        exact ((HV.out.below HB5.out).fr HFS2.out (fun b hb _ => by omega)).mono (fun b hb _ => by omega)
      · rw [← HDE.out]
        exact (HI.out.fr HFS2.out (fun b hb _ => by simp at hb; omega)).mono (fun b hb _ => by simp at hb; omega)
      · have hbw := below0 HBF.out HB5.out
        exact hbw.trans (HFS2.out.to_below (fun b hb => by omega) hbw.size)
end Go.Proofs.Ytiaojefhbhodiaa
