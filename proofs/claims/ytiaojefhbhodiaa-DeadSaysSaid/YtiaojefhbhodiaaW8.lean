/-
  Walks: what matters ahead of a block; lists of lists that are made.
-/
import Derived.Test.YtiaojefhbhodiaaW7
set_option linter.unusedVariables false
namespace Go.Proofs.Ytiaojefhbhodiaa
open Go.RowKit

theorem foldr_drop (l : List Tac) (s : List Bool) (j : Nat) (h : j < l.length) : (l.drop j).foldr backB s = backB l[j] ((l.drop (j + 1)).foldr backB s) := by
  rw [List.drop_eq_getElem_cons h, List.foldr_cons]

set_option maxRecDepth 100000 in
set_option maxHeartbeats 1000000 in
theorem ahead27 (x : Blk) (va vs : Value) (s : List Bool) (ok ok' : Nat → Prop) (w : World) (ha : Sl RTac w ok' x.ins va) (hs : Sl RB w ok s vs) (hx : x.idx s.length) (hlen : s.length ≤ 1000000) :
    Calls Try.prog 33 #[.agg #[va, .int .i64 x.fin, .int .i64 x.v, .int .i64 x.to, .int .i64 x.els], vs] w
    fun e w' => (∃ v, e = .returned v ∧ OwS Value.bool 4 w' w.heap.size (aheadB x s) v) ∧ Below w.heap.size w w' := by
  obtain ⟨A, c, rfl, hc, hn⟩ := hs.form
  obtain ⟨B, c', rfl, hc', hn'⟩ := ha.form
  have HS := Lib.hid hs; clear hs
  have HA := Lib.hid ha; clear ha
  have HX := Lib.hid hx; clear hx
  go_enter Try.func33, Try.ntmps33
  go_wp2_with fail
  refine name_world_calls (fun W0 hW0 => ?_)
  have hz : W0.heap.size = w.heap.size + 1 := by subst hW0; simp
  have B0 : Below w.heap.size w W0 := by subst hW0; exact (by repeat (first | exact Below.refl _ _ | exact alloc1 _ _ | refine Below.drew ?_ | refine Below.alloc ?_ (by simp; try omega) _ | refine Below.setCell ?_ (by simp; try omega) _))
  have b1 : Bx W0 w.heap.size #[.slice B x.ins.length c', .int .i64 x.fin, .int .i64 x.v, .int .i64 x.to, .int .i64 x.els] 54 := by subst hW0; exact Bx.new _ _ _
  have HB1 := Lib.hid b1; have HB0 := Lib.hid B0
  clear hW0 B0 b1
  refine (last27 x _ _ s _ _ (HS.out.below HB0.out) HX.out.2 hlen).mono ?_
  rintro e w1 ⟨⟨v1, rfl, ho1⟩, hb1⟩
  have hx1 := HB1.out.below hb1
  have cx := hx1.cell
  have hlt := hx1.lt
  have HO1 := Lib.hid ho1
  have HX1 := Lib.hid hx1
  have HB2 := Lib.hid (below0 HB0.out hb1)
  clear hb1 ho1 hx1
  go_wp2_with fail
  go_loopw [5, 6] (fun v i wr => ∃ z : Int, i = .int .i64 z ∧ -1 ≤ z ∧ z < x.ins.length ∧ OwS Value.bool 4 wr w.heap.size ((x.ins.drop (z + 1).toNat).foldr backB (lastB x s)) v ∧ Below w1.heap.size w1 wr) (fun _ i _ => (intOf i + 1).toNat)
  case atStart =>
    refine ⟨_, rfl, by omega, by omega, ?_, Below.refl _ _⟩
    rw [show ((x.ins.length : Int) - 1 + 1).toNat = x.ins.length by omega, List.drop_length]
    exact HO1.out.rebase fun b hb => by have := HO1.out.lt b hb; omega
  case round =>
    obtain ⟨z, rfl, hz1, hz2, hown, hb⟩ := hrel
    have HOW := Lib.hid hown
    obtain ⟨c3, f3⟩ := bcells hb
    have hs3 : w.heap.size < wr.heap.size := by have := hb.size; omega
    have HB3 := Lib.hid hb
    clear hown hb
    by_cases h0 : 0 ≤ z
    · obtain ⟨j, rfl⟩ := Int.eq_ofNat_of_zero_le h0
      have hj : j < x.ins.length := by omega
      obtain ⟨g, o, hA, hg1, hg2, hrow, _⟩ := ((HA.out.below HB2.out).below HB3.out).tac j hj
      subst hA
      obtain ⟨q1, q2, q3, q4, q5, q6, q7, q8⟩ := hrow.tac
      clear hrow
      have hix := HX.out.1 _ (List.getElem_mem hj)
      have hd := foldr_drop x.ins (lastB x s) j hj
      have e1 : ((j : Int) + 1).toNat = j + 1 := by omega
      have hown2 := HOW.out
      rw [e1] at hown2
      have hl2 : ((x.ins.drop (j + 1)).foldr backB (lastB x s)).length = s.length := by rw [foldr_backB_length, lastB_length]
      generalize (x.ins.drop (j + 1)).foldr backB (lastB x s) = s2 at *
      generalize x.ins[j] = t at *
      have HIX := Lib.hid hix; have HD := Lib.hid hd; have HO2 := Lib.hid hown2; have HL2 := Lib.hid hl2
      clear hix hd hown2 hl2 e1 HOW
      go_wp2_with fail
      refine (back27 t _ s2 (fun _ => True) _ (HO2.out.sl (fun _ _ => trivial) (by have := HL2.out; omega)) (by rw [HL2.out]; exact HIX.out) (by have := HL2.out; omega)).mono ?_
      rintro e w4 ⟨⟨v4, rfl, ho4⟩, hb4⟩
      have HO4 := Lib.hid ho4
      have HB4 := Lib.hid (below0 HB3.out hb4)
      have hs4 : wr.heap.size ≤ w4.heap.size := hb4.size
      clear ho4 hb4
      go_wp2_with fail
      go_roundw
      case rel =>
        refine ⟨(j : Int) - 1, by go_num, by omega, by omega, ?_, HB4.out⟩
        rw [show ((j : Int) - 1 + 1).toNat = j by omega, HD.out]
        exact HO4.out.rebase fun b hb => by have := HO4.out.lt b hb; omega
      case measure => simp [intOf]
    · have e : z = -1 := by omega
      subst e
      go_wp2_with fail
      go_ret
      exact ⟨⟨_, rfl, HOW.out⟩, HB2.out.trans (HB3.out.mono (by have := HB2.out.size; omega))⟩

theorem infoR : (Try.prog.info? 57).map (fun i => (i.zero, i.size, i.bytes)) = some (some (.slice none 0 0), 1, 24) := by kernel_rfl

/-- make, of elements of one cell. -/
theorem run_mk {P : Program} (t e : TypeId) (z : Value) (bytes : Nat) (ht : P.underlying t = some (.slice e)) (hinfo : (P.info? e).map (fun i => (i.zero, i.size, i.bytes)) = some (some z, 1, bytes)) (hz : z.cells = #[z]) (hby : bytes ≤ 64) (m : Nat) (hm : m ≤ 1000000000) :
    ∀ W : World, (Instr.makeSlice t (.int .i64 (m : Int)) (.int .i64 (m : Int))).run P W = .ok (.slice (some ⟨W.heap.size, 0, none⟩) m m) (W.alloc (.cells (Array.replicate m z) e)) := by
  intro W
  obtain ⟨i0, hi, hzz⟩ := Option.map_eq_some_iff.1 hinfo
  simp only [Prod.mk.injEq] at hzz
  obtain ⟨hz0, hz1, hz2⟩ := hzz
  have hb : ((i0.bytes : Int) * (m : Int)) ≤ 281474976710656 := by
    have : i0.bytes * m ≤ 64 * 1000000000 := Nat.mul_le_mul (by omega) hm
    rw [← Int.natCast_mul]
    omega
  have h := run_make (P := P) W t e i0 z ht hi hz0 .i64 .i64 (m : Int) (m : Int) (by omega) (Int.le_refl _) hb (by omega)
  rw [h]
  simp only [Int.toNat_natCast, hz1, Nat.mul_one, hz]
  congr 2
  · congr 1
    apply Array.ext
    · simp [size_madeCells]
    · intro j h1 h2
      simp [madeCells, Nat.mod_one]

/-- A header of a row of m in block b. -/
def hdr (m : Nat) (b : Nat) : Value := .slice (some ⟨b, 0, none⟩) m m
/-- Block by block the rows: each block whole. -/
def Cel (w : World) (gs : List Nat) (rows : List (List Bool)) : Prop := gs.length = rows.length ∧ ∀ i (h : i < rows.length) (h' : i < gs.length), Bx w gs[i] (rows[i].map Value.bool).toArray 4

theorem Cel.keep {w w' : World} {gs : List Nat} {rows : List (List Bool)} (h : Cel w gs rows) (hk : ∀ b ∈ gs, b < w.heap.size → w'.heap[b]? = w.heap[b]?) : Cel w' gs rows :=
  ⟨h.1, fun i h1 h2 => (h.2 i h1 h2).keep (hk _ (List.getElem_mem h2) (h.2 i h1 h2).lt)⟩
theorem Cel.below {w w' : World} {gs : List Nat} {rows : List (List Bool)} (h : Cel w gs rows) (hb : Below w.heap.size w w') : Cel w' gs rows := h.keep fun b _ hlt => hb.block b hlt
theorem Cel.lt {w : World} {gs : List Nat} {rows : List (List Bool)} (h : Cel w gs rows) : ∀ b ∈ gs, b < w.heap.size := by
  intro b hb
  obtain ⟨i, hi, rfl⟩ := List.getElem_of_mem hb
  exact (h.2 i (by have := h.1; omega) hi).lt
theorem Cel.snoc {w : World} {gs : List Nat} {rows : List (List Bool)} (h : Cel w gs rows) {b : Nat} {r : List Bool} (hb : Bx w b (r.map Value.bool).toArray 4) : Cel w (gs ++ [b]) (rows ++ [r]) := by
  refine ⟨by simp [h.1], fun i h1 h2 => ?_⟩
  by_cases e : i < gs.length
  · rw [List.getElem_append_left e]
    have e' : i < rows.length := by have := h.1; omega
    have : (rows ++ [r])[i] = rows[i] := List.getElem_append_left e'
    rw [this]
    exact h.2 i e' e
  · have : i = gs.length := by simp at h2; omega
    subst this
    have e1 : (gs ++ [b])[gs.length] = b := by simp
    have e2 : (rows ++ [r])[gs.length] = r := by simp [h.1]
    rw [e1, e2]
    exact hb

theorem hdr_one (m b : Nat) : (hdr m b).oneCell' = true := rfl

/-- Rows of the call's own: the headers lie in a row of the call's own, each row in a block of its own. -/
structure Mat (w : World) (base : Nat) (m : Nat) (rows : List (List Bool)) (v : Value) (gs : List Nat) : Prop where
  own : OwS (hdr m) 57 w base gs v
  cel : Cel w gs rows
  nodup : gs.Nodup
  far : ∀ b ∈ gs, base ≤ b ∧ v.ownBlock ≠ some b
  wide : ∀ r ∈ rows, r.length = m

theorem Mat.keep {w w' : World} {base m : Nat} {rows : List (List Bool)} {v : Value} {gs : List Nat} (h : Mat w base m rows v gs) (hk : ∀ b, base ≤ b → b < w.heap.size → w'.heap[b]? = w.heap[b]?) : Mat w' base m rows v gs :=
  ⟨h.own.keep fun b hb => hk b (h.own.lt b hb).1 (h.own.lt b hb).2, h.cel.keep fun b hb hlt => hk b (h.far b hb).1 hlt, h.nodup, h.far, h.wide⟩
theorem Mat.below {w w' : World} {base m : Nat} {rows : List (List Bool)} {v : Value} {gs : List Nat} (h : Mat w base m rows v gs) (hb : Below w.heap.size w w') : Mat w' base m rows v gs := h.keep fun b _ hlt => hb.block b hlt
/-- What it reads. -/
theorem Mat.sl {w : World} {base m : Nat} {rows : List (List Bool)} {v : Value} {gs : List Nat} (h : Mat w base m rows v gs) (hm : m ≤ 1000000) (hn : rows.length ≤ 1000000) : Sl (.slice RB) w (fun b => base ≤ b) rows v := by
  obtain ⟨hl, hc⟩ := h.cel
  rcases h.own.2 with ⟨rfl, h0⟩ | ⟨g, cap, cur, rfl, hg, hh, hcap, hcm, hcs, htake⟩
  · have : rows = [] := List.eq_nil_of_length_eq_zero (by omega)
    subst this
    exact Sl.nil _ _ _
  · refine ⟨_, _, cap, rfl, by omega, hcap, by omega, fun _ => ⟨g, 0, rfl, hg, (Array.getElem?_eq_some_iff.1 hh).1, fun i hi => ⟨[hdr m (gs[i]'(by omega))], ⟨_, rfl, ?_⟩, fun j hj => ?_⟩⟩⟩
    · have hb := hc i hi (by omega)
      have hw := h.wide _ (List.getElem_mem hi)
      have := Sl.of_bx (enc := Value.bool) (h1 := fun _ => rfl) (ok := fun b => base ≤ b) rows[i] m hb rfl (h.far _ (List.getElem_mem (by omega))).1 (by omega) (by omega) (v := hdr m gs[i]) (by unfold hdr; rw [hw])
      exact this
    · simp at hj
      subst hj
      have := OwS.cell (enc := hdr m) (g := g) (cap := cap) h.own i (by omega)
      simpa [Rep.slice] using this

set_option maxRecDepth 100000 in
set_option maxHeartbeats 1000000 in
theorem none27 (n m : Nat) (w : World) (hn : n ≤ 1000000) (hm : m ≤ 1000000) :
    Calls Try.prog 31 #[.int .i64 n, .int .i64 m] w
    fun e w' => (∃ v gs, e = .returned v ∧ Mat w' w.heap.size m (List.replicate n (List.replicate m false)) v gs) ∧ Below w.heap.size w w' := by
  have hmk := run_mk (P := Try.prog) 57 4 (.bool false) 1 Try.underlying57 infoB rfl (by omega) m (by omega)
  go_enter Try.func31, Try.ntmps31
  go_wp2_with fail
  go_loopw [5, 6] (fun v i wr => ∃ (k : Nat) (gs : List Nat), k ≤ n ∧ i = .int .i64 k ∧ Mat wr w.heap.size m (List.replicate k (List.replicate m false)) v gs ∧ Below w.heap.size w wr) (fun _ i _ => n - (intOf i).toNat)
  case atStart => exact ⟨0, [], Nat.zero_le _, rfl, ⟨OwS.nil' _ _, ⟨rfl, fun i h => by simp at h⟩, List.nodup_nil, fun b hb => by simp at hb, fun r hr => by simp at hr⟩, Below.refl _ _⟩
  case round =>
    obtain ⟨k, gs, hk, rfl, hmat, hb⟩ := hrel
    have HM := Lib.hid hmat; have HB := Lib.hid hb
    clear hmat hb
    by_cases hlt : k < n
    · go_wp2_with (at_builtin; refine Stp.out ?_)
      refine Stp.mk ?_
      refine name_world_list (fun W0 hW0 => ?_)
      have hz : W0.heap.size = wr.heap.size + 2 := by subst hW0; simp
      have B0 : Below wr.heap.size wr W0 := by subst hW0; exact (by repeat (first | exact Below.refl _ _ | exact alloc1 _ _ | refine Below.drew ?_ | refine Below.alloc ?_ (by simp; try omega) _ | refine Below.setCell ?_ (by simp; try omega) _))
      have hx1 : Bx W0 wr.heap.size (Array.replicate m (.bool false)) 4 := by subst hW0; exact (Bx.new _ _ _).alloc _
      have hx2 : Bx W0 (wr.heap.size + 1) #[hdr m wr.heap.size] 57 := by subst hW0; exact Bx.new' (by simp)
      clear hW0
      have hs1 := HB.out.size
      have hlen : gs.length ≤ 1000000 := by have := HM.out.cel.1; simp at this; omega
      refine OwS.appends (hdr m) (hdr_one m) (by rfl) _ _ 31 57 (.slice none 0 0) 24 (by rfl) Try.underlying31 infoR rfl (by decide) w.heap.size (fun _ => True) W0 _ gs [wr.heap.size] (some ⟨wr.heap.size + 1, 0, none⟩) 1 1 (by rfl) (by rfl)
        (HM.out.own.below B0) (Sl.of_bx (b := wr.heap.size + 1) [wr.heap.size] 1 hx2 rfl trivial (by simp) (by simp) rfl) (by omega) (by simp; omega) ?_
      intro v1 w1 hown hg hat
      have hB1 : Below w.heap.size w w1 := (HB.out.trans (B0.mono (by omega))).grown hg (by omega) (fun b hb => (HM.out.own.lt b hb).1)
      have hkeep : ∀ b, b < W0.heap.size → some b ≠ Value.ownBlock _ → w1.heap[b]? = W0.heap[b]? := fun b h1 h2 => hg.block b h1 h2
      have hv0 := HM.out.own.lt
      have hM1 : Mat w1 w.heap.size m (List.replicate (k + 1) (List.replicate m false)) v1 (gs ++ [wr.heap.size]) := by
        have hne : ∀ b ∈ gs ++ [wr.heap.size], v1.ownBlock ≠ some b := by
          intro b hb e
          rcases hat with hat | hat
          · rw [hat] at e
            rcases List.mem_append.1 hb with hb | hb
            · exact (HM.out.far b hb).2 e
            · simp at hb
              subst hb
              have := (hv0 _ e).2
              omega
          · rw [hat] at e
            injection e with e
            rcases List.mem_append.1 hb with hb | hb
            · have := HM.out.cel.lt b hb
              omega
            · simp at hb
              omega
        refine ⟨hown, ?_, ?_, ?_, ?_⟩
        · rw [List.replicate_succ']
          refine Cel.snoc ((HM.out.cel.below B0).keep fun b hb hlt => hg.block b hlt (fun e => (HM.out.far b hb).2 e.symm)) ?_
          have : (List.map Value.bool (List.replicate m false)).toArray = Array.replicate m (.bool false) := by simp
          rw [this]
          exact hx1.keep (hg.block _ (by omega) (fun e => by have := (hv0 _ e.symm).2; omega))
        · rw [List.nodup_append]
          refine ⟨HM.out.nodup, by simp, ?_⟩
          intro a ha b hb
          simp at hb
          subst hb
          have := HM.out.cel.lt a ha
          omega
        · intro b hb
          refine ⟨?_, hne b hb⟩
          rcases List.mem_append.1 hb with hb | hb
          · exact (HM.out.far b hb).1
          · simp at hb; omega
        · intro r hr
          obtain ⟨_, rfl⟩ := List.mem_replicate.1 hr
          simp
      have HM1 := Lib.hid hM1; have HB1 := Lib.hid hB1
      clear hM1 hB1 hkeep hv0 hown hg hat hx1 hx2 B0 hz
      go_wp2_with fail
      go_roundw
      case rel => exact ⟨k + 1, _, by omega, by go_num, HM1.out, HB1.out⟩
      case measure => simp [intOf]; omega
    · have : k = n := by omega
      subst this
      go_wp2_with fail
      go_ret
      exact ⟨⟨_, _, rfl, HM.out⟩, HB.out⟩
end Go.Proofs.Ytiaojefhbhodiaa
