/-
  Walks: the document's answers of layer 32: Func, Of, Dead.
-/
import Derived.Test.YtiaojefhbhodiaaW29
import Derived.Test.YtiaojefhbhodiaaW23
set_option linter.unusedVariables false
namespace Go.Proofs.Ytiaojefhbhodiaa
open Go.RowKit

/-- A fact that stays shut. -/
structure Bk' (p : Prop) : Prop where
  out : p

theorem once32' (hOf : Of27L) (f : Fn) (regs : Int) (hr : f.regs = regs) (va : Value) (ok : Nat → Prop) (w : World) (ha : Sl RBlk w ok f.blocks va) (hf : f.ok) :
    Calls Try.prog 29 #[.agg #[.int .i64 regs, va]] w
    fun e w' => (∃ (q : Int) (A : Option Addr) (c : Nat), e = .returned (.tuple #[.agg #[.int .i64 regs, .slice A f.blocks.length c], .int .i64 q]) ∧ Bk' (q = ((f.count - f.once.count : Nat) : Int)) ∧ Sl RBlk w' (fun c => w.heap.size ≤ c) f.once.blocks (.slice A f.blocks.length c)) ∧ Below w.heap.size w w' := by
  subst hr
  refine (once32 hOf f va ok w ha hf.idx hf.sets hf.ins hf.len).mono ?_
  rintro e w' ⟨⟨v, rfl, h⟩, hb⟩
  obtain ⟨A, c, rfl, _⟩ := h.form
  have hl : f.once.blocks.length = f.blocks.length := by simp [Fn.once]
  rw [hl] at h ⊢
  exact ⟨⟨_, A, c, rfl, ⟨rfl⟩, h⟩, hb⟩

set_option maxRecDepth 100000 in
set_option maxHeartbeats 4000000 in
theorem func32 (hOf : Of27L) (f : Fn) (va : Value) (ok : Nat → Prop) (w : World) (ha : Sl RBlk w ok f.blocks va) (hf : f.ok) :
    Calls Try.prog 15 #[.agg #[.int .i64 f.regs, va]] w
    fun e w' => (∃ v, e = .returned (.agg #[.int .i64 f.regs, v]) ∧ Sl RBlk w' (fun c => w.heap.size ≤ c) f.dead.blocks v) ∧ Below w.heap.size w w' := by
  obtain ⟨A, c, rfl, hc, hn2⟩ := ha.form
  have HA := bk (ha.mono (ok' := fun b => b < w.heap.size) (fun b _ h => h)); have HF := bk hf
  clear ha hf
  go_enter Try.func15, Try.ntmps15
  go_wp2_with fail
  refine name_world (fun W0 hW0 => ?_)
  have hz : W0.heap.size = w.heap.size + 2 := by subst hW0; simp
  have HX0 : Bk (Bx W0 w.heap.size #[.int .i64 f.regs, .slice A f.blocks.length c] 24) := by subst hW0; exact bk ((Bx.new _ _ _).alloc _)
  have HR0 : Bk (Bx W0 (w.heap.size + 1) #[.int .i64 0, .slice none 0 0] 24) := by subst hW0; exact bk (Bx.new' (by simp))
  have HB0 : Bk (Below w.heap.size w W0) := by subst hW0; exact bk (by repeat (first | exact Below.refl _ _ | exact alloc1 _ _ | refine Below.drew ?_ | refine Below.alloc ?_ (by simp; try omega) _ | refine Below.setCell ?_ (by simp; try omega) _))
  clear hW0
  go_loopg [4] f.count (fun gn s4 wr => ∃ (p : Fn) (v : Value), gn = p.count ∧ p.regs = f.regs ∧ p.dead = f.dead ∧ p.ok ∧ Bx wr w.heap.size #[.int .i64 f.regs, v] 24 ∧
    Sl RBlk wr (fun b => b ≠ w.heap.size ∧ b ≠ w.heap.size + 1) p.blocks v ∧ Fr (fun b => b = w.heap.size ∨ W0.heap.size ≤ b) W0 wr)
  case atStart => exact ⟨f, _, rfl, rfl, rfl, HF.out, HX0.out, (HA.out.below HB0.out).mono (fun b hb _ => by omega), Fr.refl _ _⟩
  case round =>
    obtain ⟨wo, rfl⟩ : ∃ W', W' = wr := ⟨_, rfl⟩
    obtain ⟨p, v, rfl, hreg, hdead, hok, xo, hv, hfr⟩ := hrel
    obtain ⟨Av, cv, rfl, _⟩ := hv.form
    have XO := bk xo; have HV := bk hv; have HFR := bk hfr; have HOK := bk hok; have HD := bk hdead; have HREG := bk hreg
    have cx := xo.cell
    have fx := xo.frozen
    have lx := xo.lt
    have hsw := hfr.size
    clear xo hv hfr hok hdead hreg
    have HON := bk (once32' hOf p f.regs HREG.out _ _ wo HV.out HOK.out)
    go_wp2_with fail
    refine HON.out.mono ?_
    rintro e W4 ⟨⟨q, A4, c4, rfl, hq, hv4⟩, hb4⟩
    have HQ := bk hq
    have xo4 := XO.out.below hb4
    have cx4 := xo4.cell
    have fx4 := xo4.frozen
    have lx4 := xo4.lt
    have XO4 := bk xo4
    have HV4 := bk (hv4.mono (ok' := fun b => wo.heap.size ≤ b ∧ b < W4.heap.size) (fun b h1 h2 => ⟨h1, h2⟩))
    have HB4 := bk hb4
    have hs4 := hb4.size
    have hl : p.once.blocks.length = p.blocks.length := by simp [Fn.once]
    have HL := bk hl
    have lx5 : w.heap.size < W4.heap.size + 1 := by omega
    have nx1 : w.heap.size ≠ W4.heap.size := by omega
    have nx2 : W4.heap.size ≠ w.heap.size := by omega
    have nx3 : w.heap.size + 1 ≠ W4.heap.size := by omega
    have nx4 : W4.heap.size ≠ w.heap.size + 1 := by omega
    have HR4 := bk ((HR0.out.fr HFR.out (by omega)).below hb4)
    clear xo4 hv4 hb4 cx fx hq hl
    by_cases hlt : p.once.count < p.count
    · have hq1 : (q == 0) = false := by
        have := HQ.out.out
        simp only [beq_eq_false_iff_ne, ne_eq]
        omega
      have HLT := bk hlt
      clear hlt
      go_wp2_with fail
      go_roundg p.once.count
      case measure => exact HLT.out
      case rel =>
        have FS : Fr (fun b => b = w.heap.size) W4 (((W4.setCell ⟨w.heap.size, 0, none⟩ (.int .i64 f.regs)).setCell ⟨w.heap.size, 1, none⟩ (.slice A4 p.blocks.length c4)).alloc (.cells #[.int .i64 f.regs, .slice A4 p.blocks.length c4] 24)) := (((Fr.refl (fun b => b = w.heap.size) W4).setCell (p := ⟨w.heap.size, 0, none⟩) (fun _ => rfl) _).setCell (p := ⟨w.heap.size, 1, none⟩) (fun _ => rfl) _).alloc _
        refine ⟨p.once, _, rfl, HREG.out, ?_, once_ok p HOK.out, ((XO4.out.set 0 _).set 1 _).alloc _, (HV4.out.fr FS (fun b hb _ => by show ¬ b = _; omega)).mono (fun b hb _ => by omega), ?_⟩
        · rw [← HD.out, dead_step p HLT.out]
        · exact (HFR.out.trans (Fr.of_below HB4.out _)).trans (FS.mono (fun b _ e => .inl e))
    · have hq1 : q = 0 := by
        have := HQ.out.out
        omega
      subst hq1
      have HDE : Bk (p.once = f.dead) := bk (by rw [← HD.out, dead_end p hlt])
      have HRW := bk (((HR4.out.set 0 (.int .i64 f.regs)).set 1 (.slice A4 p.blocks.length c4)).alloc (.cells #[.int .i64 f.regs, .slice A4 p.blocks.length c4] 24))
      have hr0 : (((W4.setCell ⟨w.heap.size + 1, 0, none⟩ (.int .i64 f.regs)).setCell ⟨w.heap.size + 1, 1, none⟩ (.slice A4 p.blocks.length c4)).alloc (.cells #[.int .i64 f.regs, .slice A4 p.blocks.length c4] 24)).cell? ⟨w.heap.size + 1, 0, none⟩ = some (.int .i64 f.regs) := HRW.out.cell 0
      have hr1 : (((W4.setCell ⟨w.heap.size + 1, 0, none⟩ (.int .i64 f.regs)).setCell ⟨w.heap.size + 1, 1, none⟩ (.slice A4 p.blocks.length c4)).alloc (.cells #[.int .i64 f.regs, .slice A4 p.blocks.length c4] 24)).cell? ⟨w.heap.size + 1, 1, none⟩ = some (.slice A4 p.blocks.length c4) := HRW.out.cell 1
      have crr := HR4.out.cell
      have frr := HR4.out.frozen
      have lrr := HR4.out.lt
      go_wp2_with fail
      refine bodyPost_ret (v := .agg #[.int .i64 f.regs, .slice A4 p.blocks.length c4]) (by simp [results, Try.results15, go_sem, hr0, hr1]) rfl ⟨⟨_, rfl, ?_⟩, ?_⟩
      · rw [← HDE.out]
        have FS : Fr (fun b => b = w.heap.size + 1) W4 (((W4.setCell ⟨w.heap.size + 1, 0, none⟩ (.int .i64 f.regs)).setCell ⟨w.heap.size + 1, 1, none⟩ (.slice A4 p.blocks.length c4)).alloc (.cells #[.int .i64 f.regs, .slice A4 p.blocks.length c4] 24)) := (((Fr.refl (fun b => b = w.heap.size + 1) W4).setCell (p := ⟨w.heap.size + 1, 0, none⟩) (fun _ => rfl) _).setCell (p := ⟨w.heap.size + 1, 1, none⟩) (fun _ => rfl) _).alloc _
        exact (HV4.out.fr FS (fun b hb _ => by show ¬ b = _; omega)).mono (fun b hb _ => by omega)
      · have hbw : Below w.heap.size w W4 := (HB0.out.trans (HFR.out.to_below (fun b hb => by omega) HB0.out.size)).trans (HB4.out.mono (by omega))
        exact ((hbw.setCell (p := ⟨w.heap.size + 1, 0, none⟩) (by show w.heap.size ≤ w.heap.size + 1; omega) _).setCell (p := ⟨w.heap.size + 1, 1, none⟩) (by show w.heap.size ≤ w.heap.size + 1; omega) _).alloc (by simp; omega) _

set_option maxRecDepth 100000 in
set_option maxHeartbeats 4000000 in
theorem dead32 (hOf : Of27L) (f : Fn) (va : Value) (ok : Nat → Prop) (w : World) (ha : Sl RBlk w ok f.blocks va) (hf : f.ok) :
    Calls Try.prog 23 #[.agg #[.int .i64 f.regs, va]] w
    fun e w' => e = .returned (.int .i64 ((f.count - f.once.count : Nat) : Int)) ∧ Below w.heap.size w w' := by
  obtain ⟨A, c, rfl, hc, hn2⟩ := ha.form
  have HA := bk ha; have HF := bk hf
  clear ha hf
  go_enter Try.func23, Try.ntmps23
  go_wp2_with fail
  refine (once32' hOf f f.regs rfl _ ok _ (HA.out.below (alloc1 _ _)) HF.out).mono ?_
  rintro e W1 ⟨⟨q, A1, c1, rfl, hq, hv1⟩, hb1⟩
  have HQ := bk hq
  have HB1 := bk (below0 (alloc1 w (.cells #[.int .i64 f.regs, .slice A f.blocks.length c] 24)) hb1)
  clear hq hv1 hb1
  go_wp2_with fail
  go_ret
  exact ⟨ret_int HQ.out.out, HB1.out.alloc HB1.out.size _⟩
end Go.Proofs.Ytiaojefhbhodiaa
