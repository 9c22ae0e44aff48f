/-
  Walks: what follows each block.
-/
import Derived.Test.YtiaojefhbhodiaaW8
set_option linter.unusedVariables false
namespace Go.Proofs.Ytiaojefhbhodiaa
open Go.RowKit

def nextB (x : Blk) : List Int := if x.fin = 1 then [x.to] else if x.fin = 2 then [x.to, x.els] else []

/-- The state of the list that is filled: the first k are told, the others are nil. -/
structure NextTo (w : World) (B b : Nat) (bs : List Blk) (k : Nat) (arr : List Value) : Prop where
  blk : Bx w b arr.toArray 68
  len : arr.length = bs.length
  done : ∀ j (h : j < bs.length) (h' : j < arr.length), j < k → Sl RI w (fun c => B ≤ c) (nextB bs[j]) arr[j]
  todo : ∀ j (h' : j < arr.length), k ≤ j → arr[j] = .slice none 0 0

theorem NextTo.below {w w' : World} {B b : Nat} {bs : List Blk} {k : Nat} {arr : List Value} (h : NextTo w B b bs k arr) (hb : Below w.heap.size w w') : NextTo w' B b bs k arr :=
  ⟨h.blk.below hb, h.len, fun j h1 h2 h3 => (h.done j h1 h2 h3).below hb, h.todo⟩
/-- One that stays nil. -/
theorem NextTo.skip {w : World} {B b : Nat} {bs : List Blk} {k : Nat} {arr : List Value} (h : NextTo w B b bs k arr) (hk : k < bs.length) (hn : nextB bs[k] = []) : NextTo w B b bs (k + 1) arr := by
  refine ⟨h.blk, h.len, fun j h1 h2 h3 => ?_, fun j h1 h2 => h.todo j h1 (by omega)⟩
  by_cases e : j = k
  · subst e
    rw [h.todo j h2 (Nat.le_refl _), hn]
    exact Sl.nil _ _ _
  · exact h.done j h1 h2 (by omega)
/-- One that is told. -/
theorem NextTo.put {w W : World} {B b : Nat} {bs : List Blk} {k : Nat} {arr : List Value} (h : NextTo w B b bs k arr) (hk : k < bs.length) (hb : b < B) (v : Value) (hf : Fr (fun c => c = b) w W) (hx : Bx W b (arr.toArray.setIfInBounds k v) 68) (hv : Sl RI W (fun c => B ≤ c) (nextB bs[k]) v) :
    NextTo W B b bs (k + 1) (arr.set k v) := by
  refine ⟨by simpa using hx, by simp [h.len], fun j h1 h2 h3 => ?_, fun j h1 h2 => ?_⟩
  · by_cases e : j = k
    · subst e
      simp only [List.getElem_set_self]
      exact hv
    · rw [List.getElem_set_ne (by omega)]
      exact (h.done j h1 (by simpa using h2) (by omega)).fr hf (fun c hc _ => by omega)
  · rw [List.getElem_set_ne (by omega)]
    exact h.todo j (by simpa using h1) (by omega)
/-- All told. -/
theorem NextTo.sl {w : World} {B b : Nat} {bs : List Blk} {arr : List Value} {ok : Nat → Prop} (h : NextTo w B b bs bs.length arr) (hok : ∀ c, B ≤ c → ok c) (hb : ok b) (hn : bs.length ≤ 1000000) :
    Sl (.slice RI) w ok (bs.map nextB) (.slice (some ⟨b, 0, none⟩) bs.length bs.length) := by
  refine ⟨_, _, _, rfl, by simp, Nat.le_refl _, by omega, fun _ => ⟨b, 0, rfl, hb, h.blk.lt, fun i hi => ?_⟩⟩
  simp only [List.length_map] at hi
  have hi' : i < arr.length := by have := h.len; omega
  refine ⟨[arr[i]], ⟨arr[i], rfl, ?_⟩, fun j hj => ?_⟩
  · have := (h.done i hi hi' hi).mono (ok' := ok) (fun c hc _ => hok c hc)
    simpa using this
  · simp at hj
    subst hj
    have := h.blk.cell i
    rw [show (0 + i * (Rep.slice RI).sz + 0) = i by simp [Rep.slice], this]
    simp [hi']

set_option maxRecDepth 100000 in
set_option maxHeartbeats 1000000 in
theorem next26 (bs : List Blk) (va : Value) (regs : Int) (ok : Nat → Prop) (w : World) (ha : Sl RBlk w ok bs va) (hn : bs.length ≤ 1000000) :
    Calls Try.prog 32 #[.agg #[.int .i64 regs, va]] w
    fun e w' => (∃ v, e = .returned v ∧ Sl (.slice RI) w' (fun c => w.heap.size ≤ c) (bs.map nextB) v) ∧ Below w.heap.size w w' := by
  obtain ⟨A, c, rfl, hc, hn2⟩ := ha.form
  have HA := Lib.hid (ha.mono (ok' := fun b => b < w.heap.size) (fun b _ h => h)); clear ha
  have hmk := run_mk (P := Try.prog) 66 68 (.slice none 0 0) 24 Try.underlying66 (by kernel_rfl) rfl (by omega) bs.length (by omega)
  go_enter Try.func32, Try.ntmps32
  go_wp2_with fail
  refine name_world (fun W0 hW0 => ?_)
  have hz : W0.heap.size = w.heap.size + 2 := by subst hW0; simp
  have B0 : Below w.heap.size w W0 := by subst hW0; exact (by repeat (first | exact Below.refl _ _ | exact alloc1 _ _ | refine Below.drew ?_ | refine Below.alloc ?_ (by simp; try omega) _ | refine Below.setCell ?_ (by simp; try omega) _))
  have hx0 : Bx W0 w.heap.size #[.int .i64 regs, .slice A bs.length c] 24 := by subst hW0; exact (Bx.new _ _ _).alloc _
  have hx1 : Bx W0 (w.heap.size + 1) (Array.replicate bs.length (.slice none 0 0)) 68 := by subst hW0; exact Bx.new' (by simp)
  have HX1 := Lib.hid hx1; have HX0 := Lib.hid hx0; have HB0 := Lib.hid B0
  clear hW0 B0 hx1 hx0 hmk
  go_loopw [4] (fun i wr => ∃ (k : Nat) (arr : List Value), k ≤ bs.length ∧ i = .int .i64 k ∧ NextTo wr (w.heap.size + 2) (w.heap.size + 1) bs k arr ∧ Fr (fun b => b = w.heap.size + 1) W0 wr) (fun i _ => bs.length - (intOf i).toNat)
  case atStart =>
    refine ⟨0, List.replicate bs.length (.slice none 0 0), Nat.zero_le _, rfl, ⟨by simpa using HX1.out, by simp, fun j _ _ h => absurd h (Nat.not_lt_zero _), fun j h _ => by simp⟩, Fr.refl _ _⟩
  case round =>
    obtain ⟨k, arr, hk, rfl, hnt, hfr⟩ := hrel
    have HN := Lib.hid hnt; have HF := Lib.hid hfr
    have hs1 : w.heap.size + 1 < wr.heap.size := by have := hfr.size; omega
    have hs2 : w.heap.size < wr.heap.size := by omega
    have cx := (HX0.out.fr HF.out (by omega)).cell
    have cy := HN.out.blk.cell
    have fy := HN.out.blk.frozen
    clear hnt hfr
    by_cases hlt : k < bs.length
    · obtain ⟨g, o, xA, xc, hA, hgw, hg, hxs, hxn, q1, q2, q3, q4, q5⟩ := ((HA.out.below HB0.out).fr HF.out (fun b h _ e => by omega)).blk k hlt
      subst hA
      have hska := HN.out.skip hlt
      have hput := fun (W : World) (v : Value) => HN.out.put (W := W) hlt (by omega) v
      have hset := fun (v : Value) => HN.out.blk.set k v
      have hka : k < arr.length := by have := HN.out.len; omega
      generalize bs[k] = x at *
      have HSK := Lib.hid hska; have HPUT := Lib.hid hput; have HSET := Lib.hid hset
      have cz : wr.cell? ⟨w.heap.size + 1, k, none⟩ = some arr[k] := by rw [cy]; simp [hka]
      have fz : wr.frozen? ⟨w.heap.size + 1, k, none⟩ = false := fy k
      generalize arr[k] = a0 at *
      have hg2 : g ≠ wr.heap.size := by omega
      clear hska hput hset cy fy hxs
      by_cases h1 : x.fin = 1
      · have t1 : (x.fin == 1) = true := by simp [h1]
        have t2 : (x.fin == 2) = false := by simp [h1]
        have H1 := Lib.hid h1; clear h1
        go_wp2_with fail
        go_roundw
        case rel =>
          refine ⟨k + 1, _, by omega, by go_num, HPUT.out _ _ ((((Fr.refl (fun c => c = w.heap.size + 1) wr).setCell (p := ⟨w.heap.size + 1, k, none⟩) (fun _ => rfl) _).alloc _).alloc _) (((HSET.out _).alloc _).alloc _) ?_, ?_⟩
          · rw [show nextB x = [x.to] by unfold nextB; rw [if_pos H1.out]]
            exact Sl.of_bx (b := wr.heap.size + 1) [x.to] 1 (Bx.new' (by simp)) rfl (by show w.heap.size + 2 ≤ _; omega) (by simp) (by simp) rfl
          · exact ((HF.out.setCell (p := ⟨w.heap.size + 1, k, none⟩) (fun _ => rfl) _).alloc _).alloc _
        case measure => simp [intOf]; omega
      · have t1 : (x.fin == 1) = false := by simp [h1]
        have H1 := Lib.hid h1; clear h1
        by_cases h2 : x.fin = 2
        · have t2 : (x.fin == 2) = true := by simp [h2]
          have H2 := Lib.hid h2; clear h2
          go_wp2_with fail
          go_roundw
          case rel =>
            refine ⟨k + 1, _, by omega, by go_num, HPUT.out _ _ ((((Fr.refl (fun c => c = w.heap.size + 1) wr).setCell (p := ⟨w.heap.size + 1, k, none⟩) (fun _ => rfl) _).alloc _).alloc _) (((HSET.out _).alloc _).alloc _) ?_, ?_⟩
            · rw [show nextB x = [x.to, x.els] by unfold nextB; rw [if_neg H1.out, if_pos H2.out]]
              exact Sl.of_bx (b := wr.heap.size + 1) [x.to, x.els] 2 (Bx.new' (by simp)) rfl (by show w.heap.size + 2 ≤ _; omega) (by simp) (by simp) rfl
            · exact ((HF.out.setCell (p := ⟨w.heap.size + 1, k, none⟩) (fun _ => rfl) _).alloc _).alloc _
          case measure => simp [intOf]; omega
        · have t2 : (x.fin == 2) = false := by simp [h2]
          have H2 := Lib.hid h2; clear h2
          go_wp2_with fail
          go_roundw
          case rel =>
            refine ⟨k + 1, _, by omega, by go_num, (HSK.out ?_).below (by repeat (first | exact Below.refl _ _ | exact alloc1 _ _ | refine Below.drew ?_ | refine Below.alloc ?_ (by simp; try omega) _ | refine Below.setCell ?_ (by simp; try omega) _)), HF.out.alloc _⟩
            unfold nextB; rw [if_neg H1.out, if_neg H2.out]
          case measure => simp [intOf]; omega
    · have : k = bs.length := by omega
      subst this
      go_wp2_with fail
      go_ret
      refine ⟨⟨_, rfl, HN.out.sl (fun c hc => by omega) (by omega) hn⟩, HB0.out.trans (HF.out.to_below (fun b hb => by omega) (by omega))⟩

set_option maxRecDepth 100000 in
set_option maxHeartbeats 1000000 in
theorem nextF (bs : List Blk) (va : Value) (regs : Int) (ok : Nat → Prop) (w : World) (ha : Sl RBlk w ok bs va) (hn : bs.length ≤ 1000000) :
    Calls Try.prog 45 #[.agg #[.int .i64 regs, va]] w
    fun e w' => (∃ v, e = .returned v ∧ Sl (.slice RI) w' (fun c => w.heap.size ≤ c) (bs.map nextB) v) ∧ Below w.heap.size w w' := by
  obtain ⟨A, c, rfl, hc, hn2⟩ := ha.form
  have HA := Lib.hid (ha.mono (ok' := fun b => b < w.heap.size) (fun b _ h => h)); clear ha
  have hmk := run_mk (P := Try.prog) 66 68 (.slice none 0 0) 24 Try.underlying66 (by kernel_rfl) rfl (by omega) bs.length (by omega)
  go_enter Try.func45, Try.ntmps45
  go_wp2_with fail
  refine name_world (fun W0 hW0 => ?_)
  have hz : W0.heap.size = w.heap.size + 2 := by subst hW0; simp
  have B0 : Below w.heap.size w W0 := by subst hW0; exact (by repeat (first | exact Below.refl _ _ | exact alloc1 _ _ | refine Below.drew ?_ | refine Below.alloc ?_ (by simp; try omega) _ | refine Below.setCell ?_ (by simp; try omega) _))
  have hx0 : Bx W0 w.heap.size #[.int .i64 regs, .slice A bs.length c] 24 := by subst hW0; exact (Bx.new _ _ _).alloc _
  have hx1 : Bx W0 (w.heap.size + 1) (Array.replicate bs.length (.slice none 0 0)) 68 := by subst hW0; exact Bx.new' (by simp)
  have HX1 := Lib.hid hx1; have HX0 := Lib.hid hx0; have HB0 := Lib.hid B0
  clear hW0 B0 hx1 hx0 hmk
  go_loopw [13] (fun i wr => ∃ (k : Nat) (arr : List Value), k ≤ bs.length ∧ i = .int .i64 k ∧ NextTo wr (w.heap.size + 2) (w.heap.size + 1) bs k arr ∧ Fr (fun b => b = w.heap.size + 1) W0 wr) (fun i _ => bs.length - (intOf i).toNat)
  case atStart =>
    refine ⟨0, List.replicate bs.length (.slice none 0 0), Nat.zero_le _, rfl, ⟨by simpa using HX1.out, by simp, fun j _ _ h => absurd h (Nat.not_lt_zero _), fun j h _ => by simp⟩, Fr.refl _ _⟩
  case round =>
    obtain ⟨k, arr, hk, rfl, hnt, hfr⟩ := hrel
    have HN := Lib.hid hnt; have HF := Lib.hid hfr
    have hs1 : w.heap.size + 1 < wr.heap.size := by have := hfr.size; omega
    have hs2 : w.heap.size < wr.heap.size := by omega
    have cx := (HX0.out.fr HF.out (by omega)).cell
    have cy := HN.out.blk.cell
    have fy := HN.out.blk.frozen
    clear hnt hfr
    by_cases hlt : k < bs.length
    · obtain ⟨g, o, xA, xc, hA, hgw, hg, hxs, hxn, q1, q2, q3, q4, q5⟩ := ((HA.out.below HB0.out).fr HF.out (fun b h _ e => by omega)).blk k hlt
      subst hA
      have hska := HN.out.skip hlt
      have hput := fun (W : World) (v : Value) => HN.out.put (W := W) hlt (by omega) v
      have hset := fun (v : Value) => HN.out.blk.set k v
      have hka : k < arr.length := by have := HN.out.len; omega
      generalize bs[k] = x at *
      have HSK := Lib.hid hska; have HPUT := Lib.hid hput; have HSET := Lib.hid hset
      have cz : wr.cell? ⟨w.heap.size + 1, k, none⟩ = some arr[k] := by rw [cy]; simp [hka]
      have fz : wr.frozen? ⟨w.heap.size + 1, k, none⟩ = false := fy k
      generalize arr[k] = a0 at *
      have hg2 : g ≠ wr.heap.size := by omega
      clear hska hput hset cy fy hxs
      by_cases h1 : x.fin = 1
      · have t1 : (x.fin == 1) = true := by simp [h1]
        have t2 : (x.fin == 2) = false := by simp [h1]
        have H1 := Lib.hid h1; clear h1
        go_wp2_with fail
        go_roundw
        case rel =>
          refine ⟨k + 1, _, by omega, by go_num, HPUT.out _ _ ((((Fr.refl (fun c => c = w.heap.size + 1) wr).setCell (p := ⟨w.heap.size + 1, k, none⟩) (fun _ => rfl) _).alloc _).alloc _) (((HSET.out _).alloc _).alloc _) ?_, ?_⟩
          · rw [show nextB x = [x.to] by unfold nextB; rw [if_pos H1.out]]
            exact Sl.of_bx (b := wr.heap.size + 1) [x.to] 1 (Bx.new' (by simp)) rfl (by show w.heap.size + 2 ≤ _; omega) (by simp) (by simp) rfl
          · exact ((HF.out.setCell (p := ⟨w.heap.size + 1, k, none⟩) (fun _ => rfl) _).alloc _).alloc _
        case measure => simp [intOf]; omega
      · have t1 : (x.fin == 1) = false := by simp [h1]
        have H1 := Lib.hid h1; clear h1
        by_cases h2 : x.fin = 2
        · have t2 : (x.fin == 2) = true := by simp [h2]
          have H2 := Lib.hid h2; clear h2
          go_wp2_with fail
          go_roundw
          case rel =>
            refine ⟨k + 1, _, by omega, by go_num, HPUT.out _ _ ((((Fr.refl (fun c => c = w.heap.size + 1) wr).setCell (p := ⟨w.heap.size + 1, k, none⟩) (fun _ => rfl) _).alloc _).alloc _) (((HSET.out _).alloc _).alloc _) ?_, ?_⟩
            · rw [show nextB x = [x.to, x.els] by unfold nextB; rw [if_neg H1.out, if_pos H2.out]]
              exact Sl.of_bx (b := wr.heap.size + 1) [x.to, x.els] 2 (Bx.new' (by simp)) rfl (by show w.heap.size + 2 ≤ _; omega) (by simp) (by simp) rfl
            · exact ((HF.out.setCell (p := ⟨w.heap.size + 1, k, none⟩) (fun _ => rfl) _).alloc _).alloc _
          case measure => simp [intOf]; omega
        · have t2 : (x.fin == 2) = false := by simp [h2]
          have H2 := Lib.hid h2; clear h2
          go_wp2_with fail
          go_roundw
          case rel =>
            refine ⟨k + 1, _, by omega, by go_num, (HSK.out ?_).below (by repeat (first | exact Below.refl _ _ | exact alloc1 _ _ | refine Below.drew ?_ | refine Below.alloc ?_ (by simp; try omega) _ | refine Below.setCell ?_ (by simp; try omega) _)), HF.out.alloc _⟩
            unfold nextB; rw [if_neg H1.out, if_neg H2.out]
          case measure => simp [intOf]; omega
    · have : k = bs.length := by omega
      subst this
      go_wp2_with fail
      go_ret
      refine ⟨⟨_, rfl, HN.out.sl (fun c hc => by omega) (by omega) hn⟩, HB0.out.trans (HF.out.to_below (fun b hb => by omega) (by omega))⟩
end Go.Proofs.Ytiaojefhbhodiaa
