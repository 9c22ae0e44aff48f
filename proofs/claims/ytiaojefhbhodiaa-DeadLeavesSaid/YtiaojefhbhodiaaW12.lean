/-
  Walks: the small functions of the program's own 'live': an empty set, a clone, what matters ahead of an instruction (in place), and ahead of a block's end.
-/
import Derived.Test.YtiaojefhbhodiaaW8
set_option linter.unusedVariables false
namespace Go.Proofs.Ytiaojefhbhodiaa
open Go.RowKit

set_option maxHeartbeats 1000000 in
theorem emptyL (m : Nat) (w : World) (hm : m ≤ 1000000) : Calls Try.prog 44 #[.int .i64 m] w
    fun e w' => e = .returned (hdr m w.heap.size) ∧ w' = w.alloc (.cells (Array.replicate m (.bool false)) 4) := by
  have hmk := run_mk (P := Try.prog) 92 4 (.bool false) 1 Try.underlying92 infoB rfl (by omega) m (by omega)
  go_enter Try.func44, Try.ntmps44
  go_wp2_with fail
  go_ret
  exact ⟨rfl, rfl⟩

theorem run_eqIn_nil {P : Program} (w : World) (d : Nat) (t e : TypeId) (a : Option Addr) (l c : Nat) (h : P.underlying t = some (.slice e)) : (Op.equalIn (d + 1) t (.slice a l c) (.slice none 0 0)).run P w = .ok a.isNone w := by
  cases a <;> simp [Op.equalIn, run_underlying h]
theorem run_eq_nil {P : Program} (w : World) (t e : TypeId) (a : Option Addr) (l c : Nat) (h : P.underlying t = some (.slice e)) : (binOp .eql t (.slice a l c) (.slice none 0 0)).run P w = .ok (.bool a.isNone) w := by
  simp only [binOp]
  simp [Op.equal, Op.maxDepth, run_eqIn_nil w 9999 t e a l c h]

set_option maxRecDepth 100000 in
set_option maxHeartbeats 1000000 in
theorem cloneL (vs : Value) (s : List Bool) (ok : Nat → Prop) (w : World) (hs : Sl RB w ok s vs) (hlen : s.length ≤ 1000000) :
    Calls Try.prog 61 #[vs] w
    fun e w' => (∃ v, e = .returned v ∧ OwS Value.bool 4 w' w.heap.size s v) ∧ Below w.heap.size w w' := by
  obtain ⟨A, c, rfl, hc, hn⟩ := hs.form
  have HS := Lib.hid hs
  have qT : ∀ (w : World) (A : Option Addr) (l c : Nat), (binOp .eql 92 (.slice A l c) (.slice none 0 0)).run Try.prog w = .ok (.bool A.isNone) w := fun w A l c => run_eq_nil w _ _ A l c Try.underlying92
  cases A with
  | none =>
    have h0 : s = [] := by
      rcases Nat.eq_zero_or_pos s.length with h | h
      · exact List.eq_nil_of_length_eq_zero h
      · obtain ⟨g, o, cs, hA, _⟩ := hs.at 0 h; cases hA
    subst h0
    clear hs
    go_enter Try.func61, Try.ntmps61
    go_wp2_with fail
    go_ret
    exact ⟨⟨_, rfl, OwS.nil' _ _⟩, (by repeat (first | exact Below.refl _ _ | exact alloc1 _ _ | refine Below.drew ?_ | refine Below.alloc ?_ (by simp; try omega) _ | refine Below.setCell ?_ (by simp; try omega) _))⟩
  | some p =>
    clear hs
    go_enter Try.func61, Try.ntmps61
    go_wp2_with (at_builtin; refine Stp.out ?_)
    refine Stp.mk ?_
    refine name_world_list (fun W0 hW0 => ?_)
    have hz : W0.heap.size = w.heap.size + 1 := by subst hW0; simp
    have B0 : Below w.heap.size w W0 := by subst hW0; exact (by repeat (first | exact Below.refl _ _ | exact alloc1 _ _ | refine Below.drew ?_ | refine Below.alloc ?_ (by simp; try omega) _ | refine Below.setCell ?_ (by simp; try omega) _))
    have HO : OwS Value.bool 4 W0 w.heap.size [] (.slice (some ⟨w.heap.size, 0, none⟩) 0 0) := by
      subst hW0
      exact OwS.of_bx (xs := []) (cap := 0) (cs := #[]) (Bx.new _ _ _) (by omega) (by omega) rfl (by simp) (by simp)
    have HB0 := Lib.hid B0; have HOO := Lib.hid HO
    clear hW0 B0 HO
    refine OwS.appends Value.bool (fun _ => rfl) (by rfl) _ _ 92 4 (.bool false) 1 (by rfl) Try.underlying92 infoB rfl (by decide) w.heap.size _ W0 (.slice (some ⟨w.heap.size, 0, none⟩) 0 0) [] s (some p) s.length c (by rfl) (by rfl) HOO.out (HS.out.below HB0.out) (by omega) (by simp; omega) ?_
    intro v1 w1 hown hg hat
    rw [List.nil_append] at hown
    have hB1 : Below w.heap.size w w1 := HB0.out.grown hg (by omega) (fun k e => by cases e; simp)
    have HB2 := Lib.hid hB1
    have HOWN := Lib.hid hown
    clear hB1 hown hg hat hz
    go_wp2_with fail
    go_ret
    exact ⟨⟨_, rfl, HOWN.out⟩, HB2.out⟩

set_option maxRecDepth 100000 in
set_option maxHeartbeats 1000000 in
theorem endL (x : Blk) (va vs : Value) (s : List Bool) (ok : Nat → Prop) (w : World) (hs : Sl RB w ok s vs) (hx : x.fin = 2 → 0 ≤ x.v ∧ x.v < s.length) (hlen : s.length ≤ 1000000) :
    Calls Try.prog 59 #[.agg #[va, .int .i64 x.fin, .int .i64 x.v, .int .i64 x.to, .int .i64 x.els], vs] w
    fun e w' => (∃ v, e = .returned v ∧ OwS Value.bool 4 w' w.heap.size (lastB x s) v) ∧ Below w.heap.size w w' := by
  have HS := Lib.hid hs; clear hs
  have HX := Lib.hid hx; clear hx
  rcases hf : (x.fin == 2) with _ | _
  all_goals
    go_enter Try.func59, Try.ntmps59
    go_wp2_with fail
    refine name_world_calls (fun W0 hW0 => ?_)
    have hz : W0.heap.size = w.heap.size + 1 := by subst hW0; simp
    have HB0 : Hid (Below w.heap.size w W0) := by subst hW0; exact (by repeat (first | exact Below.refl _ _ | exact alloc1 _ _ | refine Below.drew ?_ | refine Below.alloc ?_ (by simp; try omega) _ | refine Below.setCell ?_ (by simp; try omega) _))
    have b1 : Bx W0 w.heap.size #[va, .int .i64 x.fin, .int .i64 x.v, .int .i64 x.to, .int .i64 x.els] 54 := by subst hW0; exact Bx.new _ _ _
    have HB1 := Lib.hid b1
    clear hW0 b1
    refine (cloneL vs s ok W0 (HS.out.below HB0.out) hlen).mono ?_
    rintro e w1 ⟨⟨v1, rfl, hown⟩, hb1⟩
    have HB2 := Lib.hid (below0 HB0.out hb1)
    have hbx := HB1.out.below hb1
    have cx := hbx.cell
    have hlt := hbx.lt
    have HOWN := Lib.hid (hown.rebase (base' := w.heap.size) (fun k hk => by have := (hown.lt k hk).1; omega))
    clear hbx hown hb1 hz
  · have HF := Lib.hid hf
    go_wp2_with fail
    go_ret
    refine ⟨⟨_, rfl, ?_⟩, HB2.out⟩
    have e : lastB x s = s := by unfold lastB; rw [if_neg (by simpa using HF.out)]
    rw [e]
    exact HOWN.out
  · have hb := HX.out (by simpa using hf)
    obtain ⟨b0, b1⟩ := hb
    have hp : x.v.toNat < s.length := by omega
    obtain ⟨g, cap, rfl, hg1, hg2, hg3⟩ := HOWN.out.form' (by omega)
    have hc1 := HOWN.out.cell x.v.toNat hp
    have hf1 := HOWN.out.frozen x.v.toNat
    have HF := Lib.hid hf
    go_wp2_with fail
    go_ret
    refine ⟨⟨_, rfl, ?_⟩, HB2.out.setCell (p := ⟨g, x.v.toNat, none⟩) hg1 _⟩
    have e : lastB x s = s.set x.v.toNat true := by unfold lastB; rw [if_pos (by simpa using HF.out)]
    rw [e]
    exact HOWN.out.set x.v.toNat true

set_option maxRecDepth 100000 in
set_option maxHeartbeats 4000000 in
theorem aheadL (t : Tac) (v1 : Value) (s : List Bool) (base : Nat) (w : World) (hs : OwS Value.bool 4 w base s v1) (hx : t.idx s.length) (hlen : s.length ≤ 1000000) :
    Calls Try.prog 62 #[v1, .agg #[.int .i64 t.op, .int .i64 t.d, .int .i64 t.a, .int .i64 t.b, .int .i64 t.k, .int .i64 t.base, .int .i64 t.size, .int .u32 t.n]] w
    fun e w' => (∃ u, e = .returned u) ∧ OwS Value.bool 4 w' base (backB t s) v1 ∧ Fr (fun b => v1.ownBlock = some b) w w' := by
  have HS := Lib.hid hs
  have HVL := Lib.hid hs.lt
  clear hs
  obtain ⟨hu, hset⟩ := hx
  have HU := Lib.hid hu; clear hu
  rcases hf : (decide (0 ≤ t.sets)) with _ | _
  all_goals
    go_enter Try.func62, Try.ntmps62
    have HF := Lib.hid hf
    go_wp2_with fail
    refine name_world_calls (fun w1 hW1 => ?_)
    have HBX : Hid (Bx w1 w.heap.size #[.int .i64 t.op, .int .i64 t.d, .int .i64 t.a, .int .i64 t.b, .int .i64 t.k, .int .i64 t.base, .int .i64 t.size, .int .u32 t.n] 27) := by subst hW1; exact Bx.new _ _ _
    have HB2 : Hid (Below w.heap.size w w1) := by subst hW1; exact (by repeat (first | exact Below.refl _ _ | exact alloc1 _ _ | refine Below.drew ?_ | refine Below.alloc ?_ (by simp; try omega) _ | refine Below.setCell ?_ (by simp; try omega) _))
    have HOWN := Lib.hid (HS.out.below HB2.out)
    have hbx := HBX.out
    have cx := hbx.cell
    have hlt := hbx.lt
    clear hbx hW1
    refine (setsB t.op t.d t.a t.b t.k t.base t.size t.n _).mono ?_
    rintro e w2 ⟨rfl, hb2⟩
    obtain ⟨c2, f2⟩ := bcells hb2
    have hs2 : w.heap.size < w2.heap.size := by have := hb2.size; omega
    have HOWN2 := Lib.hid (HOWN.out.below hb2)
    have HB3 := Lib.hid (below0 HB2.out hb2)
    have HBX2 := Lib.hid (HBX.out.below hb2)
    clear hb2
    have HSET := Lib.hid hset
    have hf' : decide (0 ≤ Tac.sets ⟨t.op, t.d, t.a, t.b, t.k, t.base, t.size, t.n⟩) = _ := hf
    clear hset hf
  focus
    obtain ⟨w3, rfl⟩ : ∃ w3, w2 = w3 := ⟨_, rfl⟩
    obtain ⟨s3, hs3⟩ : ∃ s3, s3 = s := ⟨_, rfl⟩
    have HV1 : Hid (v1 = v1) := rfl
    have E3 : Hid (backB t s = useAll t.uses s3) := by
      subst hs3
      show _ = _
      unfold backB
      rw [if_neg (of_decide_eq_false HF.out)]
    have L3 : s3.length = s.length := by rw [hs3]
    rw [← hs3] at HOWN2
    clear hs3
    go_wp2_with fail
    refine name_world_calls (fun W3 hW3 => ?_)
    have HO3 : Hid (OwS Value.bool 4 W3 base s3 v1) := by subst hW3; exact HOWN2.out
    have HX3 : Hid (Bx W3 w.heap.size #[.int .i64 t.op, .int .i64 t.d, .int .i64 t.a, .int .i64 t.b, .int .i64 t.k, .int .i64 t.base, .int .i64 t.size, .int .u32 t.n] 27) := by subst hW3; exact HBX2.out
    have HB4 : Hid (Fr (fun b => v1.ownBlock = some b) w W3) := by subst hW3; exact Fr.of_below HB3.out _
    clear hW3
  rotate_left
  focus
    have hp := HSET.out
    have hq := of_decide_eq_true HF.out
    have hp2 : t.sets.toNat < s.length := by omega
    obtain ⟨g, cap, hv1, hg1, hg2, hg3⟩ := HOWN2.out.form' (by omega)
    subst hv1
    have hgw := HVL.out g rfl
    have hne1 : g ≠ w.heap.size := by omega
    have hne2 : w.heap.size ≠ g := by omega
    have hc1 := HOWN2.out.cell t.sets.toNat hp2
    have hf1 := HOWN2.out.frozen t.sets.toNat
    have hq2 : (0 : Int) ≤ Tac.sets ⟨t.op, t.d, t.a, t.b, t.k, t.base, t.size, t.n⟩ := hq
    have hp3 : Tac.sets ⟨t.op, t.d, t.a, t.b, t.k, t.base, t.size, t.n⟩ < (s.length : Int) := hp
    change w2.cell? ⟨g, (Tac.sets ⟨t.op, t.d, t.a, t.b, t.k, t.base, t.size, t.n⟩).toNat, none⟩ = _ at hc1
    change w2.frozen? ⟨g, (Tac.sets ⟨t.op, t.d, t.a, t.b, t.k, t.base, t.size, t.n⟩).toNat, none⟩ = _ at hf1
    clear hf'
    have HS3 := Lib.hid (HOWN2.out.set (Tac.sets ⟨t.op, t.d, t.a, t.b, t.k, t.base, t.size, t.n⟩).toNat false)
    have E3 : Hid (backB t s = useAll t.uses (s.set (Tac.sets ⟨t.op, t.d, t.a, t.b, t.k, t.base, t.size, t.n⟩).toNat false)) := by
      show _ = _
      unfold backB
      rw [if_pos hq]
    generalize hQ : Tac.sets ⟨t.op, t.d, t.a, t.b, t.k, t.base, t.size, t.n⟩ = q at *
    have HQ := Lib.hid hQ
    clear hQ
    go_wp2_with fail
    refine name_world_calls (fun W3 hW3 => ?_)
    obtain ⟨s3, hs3⟩ : ∃ s3, s3 = s.set q.toNat false := ⟨_, rfl⟩
    obtain ⟨v1, hv1⟩ : ∃ v1, v1 = Value.slice (some ⟨g, 0, none⟩) s.length cap := ⟨_, rfl⟩
    have HV1 : Hid (v1 = Value.slice (some ⟨g, 0, none⟩) s.length cap) := hv1
    have HG : Hid (v1.ownBlock = some g) := by rw [hv1]; exact rfl
    rw [← hs3] at HS3 E3
    rw [← hv1] at HS3 HVL ⊢
    have L3 : s3.length = s.length := by rw [hs3]; simp
    have HO3 : Hid (OwS Value.bool 4 W3 base s3 v1) := by subst hW3; exact HS3.out
    have HX3 : Hid (Bx W3 w.heap.size #[.int .i64 t.op, .int .i64 t.d, .int .i64 t.a, .int .i64 t.b, .int .i64 t.k, .int .i64 t.base, .int .i64 t.size, .int .u32 t.n] 27) := by subst hW3; exact HBX2.out.other _ _ hne2
    have HB4 : Hid (Fr (fun b => v1.ownBlock = some b) w W3) := by subst hW3; exact (Fr.of_below HB3.out _).setCell (p := ⟨g, q.toNat, none⟩) (fun _ => HG.out) _
    clear hW3 hv1 hs3 hc1 hf1
  all_goals
    have HL3 := Lib.hid L3
    clear L3
    refine (usesB t.op t.d t.a t.b t.k t.base t.size t.n _).mono ?_
    rintro e w4 ⟨⟨vu, rfl, hu4⟩, hb4⟩
    change Sl RI w4 _ t.uses vu at hu4
    obtain ⟨Au, cu, rfl, hcu, hnu⟩ := hu4.form
    have HU4 := Lib.hid hu4
    have HB5 := Lib.hid hb4
    clear hu4 hb4
    go_wp2_with fail
    go_loopw [17] (fun i wr => ∃ k : Nat, k ≤ t.uses.length ∧ i = .int .i64 k ∧ OwS Value.bool 4 wr base (useAll (t.uses.take k) s3) v1 ∧ Fr (fun b => v1.ownBlock = some b) w4 wr) (fun i _ => t.uses.length - (intOf i).toNat)
    case atStart => exact ⟨0, Nat.zero_le _, rfl, HO3.out.below HB5.out, Fr.refl _ _⟩
    case round =>
      obtain ⟨k, hk, rfl, hown, hfr⟩ := hrel
      have HOW := Lib.hid hown
      have HFR := Lib.hid hfr
      clear hown hfr
      by_cases hlt : k < t.uses.length
      · obtain ⟨gu, ou, hA, hgu1, hgu2, hxu⟩ := HU4.out.one k hlt
        subst hA
        obtain ⟨hu1, hu2⟩ := HU.out _ (List.getElem_mem hlt)
        have htake := useAll_take t.uses s3 k hlt
        have hlen2 : (useAll (t.uses.take k) s3).length = s.length := by rw [useAll_length, HL3.out]
        have hp : t.uses[k].toNat < (useAll (t.uses.take k) s3).length := by omega
        obtain ⟨g, cap, hv1, hg1, hg2, hg3⟩ := HOW.out.form' (by omega)
        have hlt3 := HO3.out.lt g (by rw [hv1]; rfl)
        subst hv1
        rw [hlen2] at hg3
        have hne : gu ≠ g := by omega
        have hc1 := HOW.out.cell _ hp
        have hf1 := HOW.out.frozen t.uses[k].toNat
        have hx2 : wr.cell? ⟨gu, ou + k, none⟩ = some (.int .i64 t.uses[k]) := by
          rw [HFR.out.cells gu (ou + k) hgu2 (by simp [Value.ownBlock]; omega)]
          exact hxu
        have HS5 := HOW.out.set t.uses[k].toNat true
        rw [← htake] at HS5
        generalize t.uses[k] = u at *
        generalize (useAll (t.uses.take k) s3)[u.toNat] = x0 at *
        have HS6 := Lib.hid HS5
        have HLEN := Lib.hid hlen2
        clear HS5 htake hlen2 hxu
        go_wp2_with fail
        go_roundw
        case rel => exact ⟨k + 1, by omega, by go_num, HS6.out, HFR.out.setCell (p := ⟨g, u.toNat, none⟩) (fun _ => rfl) _⟩
        case measure => simp [intOf]; omega
      · go_wp2_with fail
        go_end0
        have hk' : k = t.uses.length := by omega
        have h9 := HOW.out
        rw [hk', List.take_length, ← E3.out] at h9
        have h8 := (HB4.out.call HB5.out).trans HFR.out
        first
          | exact ⟨⟨_, rfl⟩, h9, h8⟩
          | (rw [HV1.out] at h9 h8; exact ⟨⟨_, rfl⟩, h9, h8⟩)
end Go.Proofs.Ytiaojefhbhodiaa
