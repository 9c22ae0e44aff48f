/-
  Walk: a list of instructions without those that are dead.
-/
import Derived.Test.YtiaojefhbhodiaaW20
set_option linter.unusedVariables false
namespace Go.Proofs.Ytiaojefhbhodiaa
open Go.RowKit

theorem infoT : (Try.prog.info? 27).map (fun i => (i.zero, i.size, i.bytes)) = some (some (.agg #[.int .i64 0, .int .i64 0, .int .i64 0, .int .i64 0, .int .i64 0, .int .i64 0, .int .i64 0, .int .u32 0]), 8, 64) := by kernel_rfl

theorem keepB_take (l : List Tac) : ∀ (rs : Rows) (k : Nat) (h : k < l.length) (h' : k < rs.length), keepB (l.take (k + 1)) (rs.take (k + 1)) = keepB (l.take k) (rs.take k) ++ (if deadB l[k] rs[k] then [] else [l[k]]) := by
  induction l with
  | nil => intro rs k h; simp at h
  | cons t l ih =>
    intro rs k h h'
    cases rs with
    | nil => simp at h'
    | cons r rs =>
      cases k with
      | zero => simp [keepB, deadB]
      | succ k =>
        have := ih rs k (by simpa using h) (by simpa using h')
        simp only [List.take_succ_cons, keepB, List.getElem_cons_succ]
        rw [this]
        split <;> simp

set_option maxRecDepth 100000 in
set_option maxHeartbeats 4000000 in
theorem withoutT (b8 b9 : Nat) (xs : List Tac) (rows : Rows) (A Ar : Option Addr) (c cr : Nat) (ok ok' : Nat → Prop) (w : World) (hc8 : w.cell? ⟨b8, 0, none⟩ = some (.slice A xs.length c)) (hs : Sl RTac w ok xs (.slice A xs.length c))
    (hc9 : w.cell? ⟨b9, 0, none⟩ = some (.slice Ar rows.length cr)) (hr : Sl (.slice RB) w ok' rows (.slice Ar rows.length cr)) (hl : rows.length = xs.length) (hp : ∀ i (h : i < xs.length), xs[i].pure = true → 0 ≤ xs[i].sets) (hx : ∀ i (h : i < xs.length) (h' : i < rows.length), xs[i].sets < rows[i].length) (hn : xs.length ≤ 900000) :
    Calls Try.prog 41 #[.slice A xs.length c, .func (.func 42) #[] #[.pointer (some ⟨b8, 0, none⟩), .pointer (some ⟨b9, 0, none⟩)]] w
    fun e w' => (∃ v, e = .returned v ∧ Sl RTac w' (fun c => w.heap.size ≤ c) (keepB xs rows) v) ∧ Below w.heap.size w w' := by
  have HS := bk hs; have HR := bk hr; have HP := bk hp; have HX := bk hx; have HC8 := bk hc8; have HC9 := bk hc9
  have hlr := hl
  clear hs hr hp hx hc8 hc9
  go_enter Try.func41, Try.ntmps41
  go_wp2_with fail
  go_loopw [5, 10] (fun v j wr => ∃ k : Nat, k ≤ xs.length ∧ j = .int .i64 k ∧ Own RTac 27 wr w.heap.size (fun _ => False) (keepB (xs.take k) (rows.take k)) v ∧ Below w.heap.size w wr) (fun _ j _ => xs.length - (intOf j).toNat)
  case atStart => exact ⟨0, Nat.zero_le _, rfl, Own.nil _ _ _ _ _, Below.refl _ _⟩
  case round =>
    obtain ⟨k, hk, rfl, hown, hb⟩ := hrel
    have HO := bk hown; have HB := bk hb
    have hsw := hb.size
    clear hown
    by_cases hlt : k < xs.length
    · have hltr : k < rows.length := by omega
      obtain ⟨g, o, hA, _, hg, hrow, htok⟩ := (HS.out.below hb).tac k hlt
      subst hA
      obtain ⟨q0, q1, q2, q3, q4, q5, q6, q7⟩ := hrow.tac
      have HTK := bk (keepB_take xs rows k hlt hltr)
      have HTOK := bk htok
      clear hb hrow htok
      go_wp2_with fail
      refine name_world_calls (fun W1 hW1 => ?_)
      have hz1 : W1.heap.size = wr.heap.size + 1 := by subst hW1; simp
      have hx1 : Bx W1 wr.heap.size #[.int .i64 xs[k].op, .int .i64 xs[k].d, .int .i64 xs[k].a, .int .i64 xs[k].b, .int .i64 xs[k].k, .int .i64 xs[k].base, .int .i64 xs[k].size, .int .u32 xs[k].n] 27 := by subst hW1; exact Bx.new _ _ _
      have hb1 : Below wr.heap.size wr W1 := by subst hW1; exact alloc1 _ _
      have HB1 := bk (below0 HB.out hb1)
      have HX1 := bk hx1
      have HO1 := bk (HO.out.below hb1)
      clear hW1 hx1 hb1
      refine (onceFn k b8 b9 xs rows (some ⟨g, o, none⟩) Ar c cr ok ok' W1 (cell_below HB1.out HC8.out) (HS.out.below HB1.out) (cell_below HB1.out HC9.out) (HR.out.below HB1.out) hlt hlr (HP.out k hlt) (HX.out k hlt hltr)).mono ?_
      rintro e W2 ⟨rfl, hb2⟩
      have hx2 := HX1.out.below hb2
      have cx := hx2.cell
      have lx := hx2.lt
      have HB2 := bk (below0 HB1.out hb2)
      have HO2 := bk (HO1.out.below hb2)
      have hs2 := hb2.size
      clear hx2 hb2
      generalize hd : deadB xs[k] rows[k] = d at *
      have HD := bk hd
      clear hd
      cases d
      · go_wp2_with (at_builtin; refine Stp.out ?_)
        refine Stp.mk ?_
        refine Own.append RTac (by rfl) _ _ 52 27 (.agg #[.int .i64 0, .int .i64 0, .int .i64 0, .int .i64 0, .int .i64 0, .int .i64 0, .int .i64 0, .int .u32 0]) 64 (by rfl) Try.underlying52 infoT rfl w.heap.size (fun _ => False) W2 _ (keepB (xs.take k) (rows.take k)) xs[k] xs[k].cells (by rfl) (by rfl)
          HO2.out ⟨rfl, HTOK.out⟩ HB2.out.size (fun _ h => h.elim) ?_ (by omega) ?_
        · have := keepB_le (xs.take k) (rows.take k)
          have e : (xs.take k).length = k := by rw [List.length_take]; omega
          omega
        intro v3 w3 hown3 hg3 hat3 hv3
        obtain ⟨g3, c3, rfl⟩ := hv3
        have HO3 := bk hown3
        have HB3 : Bk (Below w.heap.size w w3) := bk (HB2.out.grown hg3 HB2.out.size (fun q hq => (HO2.out.lt q hq).1))
        clear hown3 hg3 hat3
        go_wp2_with fail
        go_roundw
        case measure => simp [intOf]; omega
        case rel =>
          refine ⟨k + 1, by omega, by go_num, ?_, HB3.out⟩
          rw [HTK.out]
          simpa using HO3.out
      · go_wp2_with fail
        go_roundw
        case measure => simp [intOf]; omega
        case rel =>
          refine ⟨k + 1, by omega, by go_num, ?_, HB2.out⟩
          rw [HTK.out]
          simpa using HO2.out
    · have hkk : k = xs.length := by omega
      subst hkk
      rw [List.take_length, show rows.take xs.length = rows by rw [← hlr, List.take_length]] at HO
      have hkl := keepB_le xs rows
      clear hb
      go_wp2_with fail
      go_ret
      exact ⟨⟨_, rfl, HO.out.sl (fun _ h => h.elim) (fun q hq => (HO.out.lt q hq).1) (by omega)⟩, HB.out⟩
end Go.Proofs.Ytiaojefhbhodiaa
