/-
  Walk: live.Of: the live registers, the program's own.
-/
import Derived.Test.YtiaojefhbhodiaaW17
import Derived.Test.YtiaojefhbhodiaaW13
import Derived.Test.YtiaojefhbhodiaaW10b
import Derived.Test.YtiaojefhbhodiaaW9
import Derived.Deep.RegionHeld3
import Derived.StillTailTactics
set_option linter.unusedVariables false
namespace Go.Proofs.Ytiaojefhbhodiaa
open Go.RowKit Go.Shelf
attribute [local go_sem] Oper.semAt_some

theorem infoS : (Try.prog.info? 92).map (fun i => (i.zero, i.size, i.bytes)) = some (some (.slice none 0 0), 1, 24) := by kernel_rfl

/-- A loop whose rounds turn some temporaries and leave marks. -/
theorem wp_loop_upd {P : Program} {c : Code} {Q : Exit → Act → World → Prop} {tm : Array Value} {w : World} {β : Type} (upd : β → List (Nat × Value)) (dl : β → List Deferred) (I : β → World → Prop) (μ : β → Nat) (b0 : β)
    (h0 : (upd b0).foldl (fun t p => t.setIfInBounds p.1 p.2) tm = tm) (hd : dl b0 = []) (hI : I b0 w)
    (round : ∀ b W, I b W → c.wp P (Exit.then (fun a' W' => ∃ b', a' = { tmps := (upd b').foldl (fun t p => t.setIfInBounds p.1 p.2) tm, defers := dl b' } ∧ I b' W' ∧ μ b' < μ b) Q) { tmps := (upd b).foldl (fun t p => t.setIfInBounds p.1 p.2) tm, defers := dl b } W) :
    (Code.loop c).wp P Q { tmps := tm, defers := [] } w := by
  have key : ∀ n b W, I b W → μ b < n → Code.rounds P c Q n { tmps := (upd b).foldl (fun t p => t.setIfInBounds p.1 p.2) tm, defers := dl b } W := by
    intro n
    induction n with
    | zero => intro b W _ h; omega
    | succ n ih =>
      intro b W hb hlt
      refine wp_mono (round b W hb) ?_
      intro e a' W' hq
      cases e with
      | normal =>
        obtain ⟨b', rfl, hb', hl⟩ := hq
        exact ih b' W' hb' (by omega)
      | _ => exact hq
  have h := key (μ b0 + 1) b0 w hI (by omega)
  rw [h0, hd] at h
  exact wp_loop_rounds _ h

/-- What the outer loop keeps. -/
structure OfSt where
  u43 : Value
  u44 : Value
  u45 : Value
  u46 : Value
  u82 : Value
  b7 : Nat
  ds : List Nat
  I : Rows
  O : Rows
  mo : Bool

theorem foldl_down (bs : List Blk) (s : LvS) : ∀ k, k ≤ bs.length → (backTo bs.length k).foldl (fun s i => stepB bs[i.1] i.1 s) s = downTo bs s k
  | 0, _ => by simp [backTo, downTo]
  | k + 1, h => by
    rw [backTo_succ _ _ (by omega), List.foldl_append, foldl_down bs s k (by omega), downTo, dif_pos (by omega)]
    have e : bs.length - 1 - k = bs.length - (k + 1) := by omega
    simp only [List.foldl_cons, List.foldl_nil, e]

theorem getD_get (rows : Rows) (i : Nat) (h : i < rows.length) : rows.getD i [] = rows[i] := by rw [List.getD_eq_getElem?_getD, List.getElem?_eq_getElem h]; rfl
theorem Cel.frS {w w' : World} {S : Nat → Prop} {gs : List Nat} {rows : Rows} (h : Cel w gs rows) (hf : Fr S w w') (hn : ∀ b ∈ gs, ¬ S b) : Cel w' gs rows := h.keep fun b hb hlt => hf.block b hlt (hn b hb)
theorem Cel.upd {w w' : World} {gs : List Nat} {rows : Rows} (h : Cel w gs rows) (hn : gs.Nodup) (i : Nat) (hi : i < gs.length) (hf : Fr (fun x => x = gs[i]) w w') {r : List Bool} (hb : Bx w' gs[i] (r.map Value.bool).toArray 4) : Cel w' gs (rows.set i r) := by
  refine ⟨by simp [h.1], fun j h1 h2 => ?_⟩
  by_cases e : i = j
  · subst e
    rw [List.getElem_set_self]
    exact hb
  · rw [List.getElem_set_ne e]
    have h3 : j < rows.length := by simpa using h1
    exact (h.2 j h3 h2).fr hf (fun he => e ((List.getElem_inj hn).1 he).symm)
theorem Cel.sl {w : World} {gs : List Nat} {rows : Rows} (h : Cel w gs rows) (i : Nat) (hi : i < gs.length) (hi' : i < rows.length) (m : Nat) (hm : rows[i].length = m) (h1 : m ≤ 1000000) : Sl RB w (fun c => c = gs[i]) rows[i] (hdr m gs[i]) :=
  Sl.of_bx (ok := fun c => c = gs[i]) rows[i] m (h.2 i hi' hi) rfl rfl (by omega) (by omega) (by unfold hdr; rw [hm])

theorem OwS.wp_appends {P : Program} {ops : Array Oper} {o : Oper} {a : Act} {Q : Exit → Act → World → Prop} {K : Act → World → Prop} {α : Type} (enc : α → Value) (h1 : ∀ x, (enc x).oneCell' = true) (hgd : o.guard = none) (s x : Operand) (t e : TypeId) (z : Value) (bytes : Nat)
    (ho : o.op = .call { callee := .builtin .append, args := #[s, x], argTypes := #[t, t] })
    (ht : P.underlying t = some (.slice e)) (hinfo : (P.info? e).map (fun i => (i.zero, i.size, i.bytes)) = some (some z, 1, bytes)) (hz : z.cells.size = 1) (hby : bytes ≤ 64)
    (base : Nat) (ok : Nat → Prop) (W : World) (v : Value) (xs ys : List α) (A : Option Addr) (m c : Nat) (hs : a.eval s = v) (hx : a.eval x = .slice A m c)
    (HO : OwS enc e W base xs v) (HY : Sl (Rep.scalar enc h1) W ok ys (.slice A m c)) (hbase : base ≤ W.heap.size) (h63 : xs.length + ys.length ≤ 1000000000000)
    (h : ∀ v1 w1, OwS enc e w1 base (xs ++ ys) v1 → W.grownBy w1 v.ownBlock → (v1.ownBlock = v.ownBlock ∨ v1.ownBlock = some W.heap.size) → K (a.put o.dst v1) w1) :
    if Region.wanted o (yielded ops a.tmps) then o.wp P a W K Q else K (a.put o.dst undef) W := by
  have hw : Region.wanted o (yielded ops a.tmps) = true := by simp [Region.wanted, hgd]
  rw [if_pos hw]
  obtain ⟨v1, w1, hr, h2, h3, h4⟩ := OwS.run_appends (P := P) enc h1 t o.type e z bytes ht hinfo hz hby W base ok v xs ys A m c HO HY hbase h63
  unfold Oper.wp execOp
  simp only [ho, resolve, invoke, builtin, Sem.run_bind, Sem.run_pure, Result.andThen_ok, List.map_toArray, List.map_cons, List.map_nil, hs, hx, hr]
  exact h v1 w1 h2 h3 h4

/-- A function leaves with its marks. -/
theorem leaves_marks {F : Fence} {n : Nat} {P : Program} {fn : Func} {tmps : Array Value} {R : Ending → World → Prop} : ∀ (ds : List Nat) (W : World), ds.Nodup → (∀ D ∈ ds, W.heap[D]? = some (.deferred (some []))) →
    (∀ W', (∀ b w, Below b w W → (∀ D ∈ ds, b ≤ D) → Below b w W') → Calm 0 W W' → LeavesInM F n P fn tmps R [] .returning W') → LeavesInM F n P fn tmps R (ds.map fun D => { target := .collected D, args := #[] }) .returning W
  | [], W, _, _, h => h W (fun _ _ hb _ => hb) ⟨Nat.le_refl _, fun _ _ _ _ h => h, fun _ h => by omega⟩
  | D :: ds, W, hnd, hall, h => by
    have hD := hall D (by simp)
    obtain ⟨hn1, hn2⟩ := List.nodup_cons.1 hnd
    refine ⟨by simp, .inl ⟨D, _, rfl, run_takeDeferred hD, leaves_marks ds _ hn2 (fun D' h' => ?_) (fun W' hb hc => ?_)⟩⟩
    · rw [World.putObj_heap_other (by rintro rfl; exact hn1 h')]
      exact hall D' (by simp [h'])
    · refine h W' (fun b w hbw hle => hb b w (below_put hD (hle D (by simp)) hbw) (fun D' h' => hle D' (by simp [h']))) ?_
      have c1 := calm_put hD (n := 0) (Nat.zero_le _)
      exact ⟨Nat.le_trans c1.size hc.size, fun c cs t o h => hc.cells c cs t o (c1.cells c cs t o h), fun c h => by omega⟩

theorem bx_old {W W' : World} {b : Nat} {cs : Array Value} {t : TypeId} {row : Option Nat} (h : Bx W b cs t) (hg : ∀ k, k < W.heap.size → some k ≠ row → W'.heap[k]? = W.heap[k]?) (h1 : b < W.heap.size) (h2 : some b ≠ row) : Bx W' b cs t := h.keep (hg b h1 h2)

/-- Headers, and behind them what isn't made yet. -/
def hds (m : Nat) (gs : List Nat) (N : Nat) : List Value := gs.map (hdr m) ++ List.replicate (N - gs.length) (Value.slice none 0 0)
theorem hds_get (m : Nat) (gs : List Nat) (N k : Nat) (hk : gs.length = k) (h : k < N) : (hds m gs N).toArray[k]? = some (.slice none 0 0) := by
  subst hk
  unfold hds
  rw [List.getElem?_toArray, List.getElem?_append_right (by simp), List.length_map, Nat.sub_self]
  obtain ⟨j, hj⟩ : ∃ j, N - gs.length = j + 1 := ⟨N - gs.length - 1, by omega⟩
  rw [hj]
  rfl
theorem hds_set (m : Nat) (gs : List Nat) (N k b : Nat) (hk : gs.length = k) (h : k < N) : (hds m gs N).toArray.setIfInBounds k (hdr m b) = (hds m (gs ++ [b]) N).toArray := by
  subst hk
  unfold hds
  obtain ⟨j, hj⟩ : ∃ j, N - gs.length = j + 1 := ⟨N - gs.length - 1, by omega⟩
  rw [hj, show N - (gs ++ [b]).length = j by simp; omega, List.setIfInBounds_toArray, List.set_append_right _ _ (by simp)]
  simp [List.replicate_succ]
theorem hds_nil (m N : Nat) : (hds m [] N).toArray = Array.replicate N (Value.slice none 0 0) := by simp [hds]
theorem hds_all (m : Nat) (gs : List Nat) (N : Nat) (h : gs.length = N) : hds m gs N = gs.map (hdr m) := by simp [hds, h]

set_option maxRecDepth 100000 in
set_option maxHeartbeats 16000000 in
theorem ofL (f : Fn) (va : Value) (ok : Nat → Prop) (w : World) (ha : Sl RBlk w ok f.blocks va) (hf : f.idx) :
    Calls Try.prog 27 #[.agg #[.int .i64 f.regs, va]] w
    fun e w' => (∃ vi vo, e = .returned (.agg #[vi, vo]) ∧ Sl (.slice RB) w' (fun c => w.heap.size ≤ c) f.live.In vi ∧ Sl (.slice RB) w' (fun c => w.heap.size ≤ c) f.live.Out vo) ∧ Below w.heap.size w w' := by
  obtain ⟨r0, r1, n1, hblk, hnxt⟩ := hf
  obtain ⟨regs, bs⟩ := f
  dsimp only at ha r0 r1 n1 hblk hnxt ⊢
  obtain ⟨A, c, rfl, hc, hn2⟩ := ha.form
  obtain ⟨m, rfl⟩ := Int.eq_ofNat_of_zero_le r0
  have hm : m ≤ 1000000 := by omega
  have HA := bk (ha.mono (ok' := fun b => b < w.heap.size) (fun b _ h => h)); clear ha
  have HBLK := bk hblk; have HNXT := bk hnxt
  have hch : ∀ i : Fin bs.length, ∃ q : Option Addr × Nat, Sl RTac w (fun b => b < w.heap.size) bs[i.1].ins (.slice q.1 bs[i.1].ins.length q.2) ∧ ∃ g o, A = some ⟨g, o, none⟩ ∧ g < w.heap.size ∧ Row w g (o + i.1 * 5) [.slice q.1 bs[i.1].ins.length q.2, .int .i64 bs[i.1].fin, .int .i64 bs[i.1].v, .int .i64 bs[i.1].to, .int .i64 bs[i.1].els] := fun i => by
    obtain ⟨g, o, cs, hA, _, hlt, ⟨v, rfl, hv⟩, hr⟩ := HA.out.at i.1 i.2
    obtain ⟨B, c', rfl, _⟩ := hv.form
    exact ⟨(B, c'), hv, g, o, hA, hlt, hr⟩
  obtain ⟨qs, hvs⟩ := Classical.skolem.1 hch
  have HVS := bk hvs
  clear hblk hnxt r0 r1 hch hvs
  have hmk := run_mk (P := Try.prog) 91 92 (.slice none 0 0) 24 Try.underlying91 infoS rfl (by omega) bs.length (by omega)
  refine (callsIn_wide (n := 10)).1 (callsIn_of_wp_marks Try.func27 rfl trivial ?_ rfl)
  refine wpIn_wide.2 ?_
  simp only [Try.ntmps27, List.size_toArray, List.length_cons, List.length_nil, Nat.reduceAdd, Nat.reduceSub, Array.replicate_succ, Array.replicate_zero, List.push_toArray, List.append_toArray, List.nil_append, List.cons_append]
  go_upto_region 1 with fail
  refine name_world (fun W0 hW0 => ?_)
  have hz : W0.heap.size = w.heap.size + 2 := by subst hW0; simp
  have hx0 : Bx W0 w.heap.size #[.int .i64 m, .slice A bs.length c] 24 := by subst hW0; exact (Bx.new _ _ _).alloc _
  have hx1 : Bx W0 (w.heap.size + 1) #[.slice none 0 0, .slice none 0 0] 41 := by subst hW0; exact Bx.new' (by simp)
  have B0 : Below w.heap.size w W0 := by subst hW0; exact (by repeat (first | exact Below.refl _ _ | exact alloc1 _ _ | refine Below.drew ?_ | refine Below.alloc ?_ (by simp; try omega) _ | refine Below.setCell ?_ (by simp; try omega) _))
  have ci : W0.cell? ⟨w.heap.size, 1, none⟩ = some (.slice A bs.length c) := hx0.cell 1
  have hy1 : w.heap.size < W0.heap.size := by omega
  have hy2 : w.heap.size < W0.heap.size + 1 := by omega
  have hy2b : w.heap.size < W0.heap.size + 1 + 1 := by omega
  have hy2c : w.heap.size < W0.heap.size + 1 + 1 + 1 := by omega
  have hy3b : w.heap.size ≠ W0.heap.size + 1 := by omega
  have hy3c : w.heap.size ≠ W0.heap.size + 1 + 1 := by omega
  have hy3d : w.heap.size ≠ W0.heap.size + 1 + 1 + 1 := by omega
  have hy4b : W0.heap.size + 1 ≠ w.heap.size := by omega
  have hy4c : W0.heap.size + 1 + 1 ≠ w.heap.size := by omega
  have hy4d : W0.heap.size + 1 + 1 + 1 ≠ w.heap.size := by omega
  have hy3 : w.heap.size ≠ W0.heap.size := by omega
  have hy4 : W0.heap.size ≠ w.heap.size := by omega
  have HX1 := bk hx1; have HX0 := bk hx0; have HB0 := bk B0; have HZ := bk hz
  clear hW0 B0 hx1 hx0 hz
  go_cut [3, 4] from 14 to 21 (fun s3 s4 wx => ∃ b3 b4 ha hb, s3 = .pointer (some ⟨b3, 0, none⟩) ∧ s4 = .pointer (some ⟨b4, 0, none⟩) ∧
    Bx wx b3 #[.slice (some ⟨ha, 0, none⟩) bs.length bs.length] 91 ∧ Bx wx b4 #[.slice (some ⟨hb, 0, none⟩) bs.length bs.length] 91 ∧
    Bx wx ha (Array.replicate bs.length (.slice none 0 0)) 92 ∧ Bx wx hb (Array.replicate bs.length (.slice none 0 0)) 92 ∧
    W0.heap.size ≤ b3 ∧ W0.heap.size ≤ b4 ∧ W0.heap.size ≤ ha ∧ W0.heap.size ≤ hb ∧ [b3, b4, ha, hb].Nodup ∧ Below W0.heap.size W0 wx)
  case first =>
    -- [done
    go_region_held3 (fun w' => w'.cell? ⟨w.heap.size, 1, none⟩ = some (.slice A bs.length c)) (exact cell_below (by repeat (first | exact Below.refl _ _ | exact alloc1 _ _ | refine Below.drew ?_ | refine Below.alloc ?_ (by simp; try omega) _ | refine Below.setCell ?_ (by simp; try omega) _)) ci) (fail)
    all_goals
      go_wp2_with fail
      go_meet
      apply Exists.intro
      apply Exists.intro
      apply Exists.intro
      apply Exists.intro
      refine ⟨rfl, rfl, ?_, ?_, ?_, ?_, ?_, ?_, ?_, ?_, ?_, ?_⟩
      · repeat (first | with_reducible refine Bx.drew ?_ | (refine Bx.new' ?_; simp; done) | with_reducible refine Bx.alloc ?_ _)
      · repeat (first | with_reducible refine Bx.drew ?_ | (refine Bx.new' ?_; simp; done) | with_reducible refine Bx.alloc ?_ _)
      · repeat (first | with_reducible refine Bx.drew ?_ | (refine Bx.new' ?_; simp; done) | with_reducible refine Bx.alloc ?_ _)
      · repeat (first | with_reducible refine Bx.drew ?_ | (refine Bx.new' ?_; simp; done) | with_reducible refine Bx.alloc ?_ _)
      · omega
      · omega
      · omega
      · omega
      · simp <;> omega
      · exact (by repeat (first | exact Below.refl _ _ | exact alloc1 _ _ | refine Below.drew ?_ | refine Below.alloc ?_ (by simp; try omega) _ | refine Below.setCell ?_ (by simp; try omega) _))
    -- done]
  case rest =>
    obtain ⟨b3, b4, ha, hb, rfl, rfl, x3, x4, xa, xb, g3, g4, ga, gb, hnd, hB⟩ := hcut
    have hx0 := HX0.out.below hB
    have X0 := bk hx0; have X1 := bk (HX1.out.below hB); have X3 := bk x3; have X4 := bk x4; have XA := bk xa; have XB := bk xb
    have HBC := bk (below0 HB0.out hB)
    have cs1 : wc.cell? ⟨w.heap.size, 1, none⟩ = some (.slice A bs.length c) := hx0.cell 1
    have hlw := hx0.lt
    have hsz := hB.size
    have L3 := x3.lt; have L4 := x4.lt; have LA := xa.lt; have LB := xb.lt
    simp only [List.nodup_cons, List.mem_cons, List.not_mem_nil, or_false, not_or, not_false_eq_true, List.nodup_nil, and_true] at hnd
    obtain ⟨⟨n34, n3a, n3b⟩, ⟨n4a, n4b⟩, nab⟩ := hnd
    clear hx0 x3 x4 xa xb hB ci hy2 hy2b hy2c hy3 hy4 hy3b hy3c hy3d hy4b hy4c hy4d HX0 HX1 hmk
    go_wp2_with fail
    have hemp : ∀ W, Calls Try.prog 44 #[.int .i64 m] W fun e w' => e = .returned (.slice (some ⟨W.heap.size, 0, none⟩) m m) ∧ w' = W.alloc (.cells (Array.replicate m (.bool false)) 4) := fun W => emptyL m W hm
    have HEMP := bk hemp
    clear hemp
    go_loopw [25] (fun i wr => ∃ k : Nat, k ≤ bs.length ∧ i = .int .i64 k ∧ ∃ gi go : List Nat, gi.length = k ∧ go.length = k ∧ Bx wr ha (hds m gi bs.length).toArray 92 ∧
      Bx wr hb (hds m go bs.length).toArray 92 ∧ Cel wr gi (noRows k m) ∧ Cel wr go (noRows k m) ∧ (gi ++ go).Nodup ∧ (∀ b ∈ gi ++ go, wc.heap.size ≤ b) ∧ Fr (fun k => k = ha ∨ k = hb) wc wr) (fun i _ => bs.length - (intOf i).toNat)
    case atStart =>
      exact ⟨0, Nat.zero_le _, rfl, [], [], rfl, rfl, by rw [hds_nil]; exact XA.out, by rw [hds_nil]; exact XB.out, ⟨rfl, fun i h => by simp [noRows] at h⟩, ⟨rfl, fun i h => by simp [noRows] at h⟩, List.nodup_nil, (fun b h => by simp at h), Fr.refl _ _⟩
    case round =>
      obtain ⟨k, hk, rfl, gi, go, e1, e2, xa, xb, ci, co, hnd, hge, hfr⟩ := hrel
      have XA2 := bk xa; have XB2 := bk xb; have CI := bk ci; have CO := bk co; have ND := bk hnd; have GE := bk hge; have FR := bk hfr
      have c3 : wr.cell? ⟨b3, 0, none⟩ = some (.slice (some ⟨ha, 0, none⟩) bs.length bs.length) := (X3.out.fr hfr (by simp [n3a, n3b])).cell 0
      have c4 : wr.cell? ⟨b4, 0, none⟩ = some (.slice (some ⟨hb, 0, none⟩) bs.length bs.length) := (X4.out.fr hfr (by simp [n4a, n4b])).cell 0
      have c0 : wr.cell? ⟨w.heap.size, 0, none⟩ = some (.int .i64 m) := (X0.out.fr hfr (by rintro (h | h) <;> omega)).cell 0
      have hs := hfr.size
      clear xa xb ci co hnd hge hfr
      by_cases hlt : k < bs.length
      · skip
        -- [done
        go_upto_region 5 with fail
        have m0 : wr.heap.size ≠ w.heap.size := by omega
        have m3 : wr.heap.size ≠ b3 := by omega
        have m4 : wr.heap.size ≠ b4 := by omega
        have ma : wr.heap.size ≠ ha := by omega
        have mb : wr.heap.size ≠ hb := by omega
        have p0 : w.heap.size < wr.heap.size := by omega
        have p3 : b3 < wr.heap.size := by omega
        have p4 : b4 < wr.heap.size := by omega
        have pa : ha < wr.heap.size := by omega
        have pb : hb < wr.heap.size := by omega
        have p0' : w.heap.size < wr.heap.size + 1 := by omega
        have p3' : b3 < wr.heap.size + 1 := by omega
        have p4' : b4 < wr.heap.size + 1 := by omega
        have pa' : ha < wr.heap.size + 1 := by omega
        have pb' : hb < wr.heap.size + 1 := by omega
        have o0a : w.heap.size ≠ ha := by omega
        have o0b : w.heap.size ≠ hb := by omega
        have n3a' := Ne.symm n3a; have n3b' := Ne.symm n3b; have n4a' := Ne.symm n4a; have n4b' := Ne.symm n4b; have nab' := Ne.symm nab; have o0a' := Ne.symm o0a; have o0b' := Ne.symm o0b
        have ca : wr.cell? ⟨ha, k, none⟩ = some (.slice none 0 0) := by rw [XA2.out.cell, hds_get m gi bs.length k e1 hlt]
        have cb : wr.cell? ⟨hb, k, none⟩ = some (.slice none 0 0) := by rw [XB2.out.cell, hds_get m go bs.length k e2 hlt]
        have nS0 : ¬ ((fun x => x = ha ∨ x = hb) w.heap.size) := by rintro (h | h) <;> omega
        have nS3 : ¬ ((fun x => x = ha ∨ x = hb) b3) := by rintro (h | h) <;> omega
        have nS4 : ¬ ((fun x => x = ha ∨ x = hb) b4) := by rintro (h | h) <;> omega
        have fa := XA2.out.frozen k
        have fb := XB2.out.frozen k
        go_region_held3 (fun w' => w'.cell? ⟨w.heap.size, 0, none⟩ = some (.int .i64 m) ∧ w'.cell? ⟨b3, 0, none⟩ = some (.slice (some ⟨ha, 0, none⟩) bs.length bs.length) ∧ w'.cell? ⟨b4, 0, none⟩ = some (.slice (some ⟨hb, 0, none⟩) bs.length bs.length)) ((refine ⟨?_, ?_, ?_⟩; exact fr_cell (S := fun x => x = ha ∨ x = hb) (w := wr) (by repeat (first | exact Fr.refl _ _ | assumption | refine Fr.drew ?_ | refine Fr.alloc ?_ _ | refine Fr.setCell ?_ (by simp; try omega) _)) c0 nS0; exact fr_cell (S := fun x => x = ha ∨ x = hb) (w := wr) (by repeat (first | exact Fr.refl _ _ | assumption | refine Fr.drew ?_ | refine Fr.alloc ?_ _ | refine Fr.setCell ?_ (by simp; try omega) _)) c3 nS3; exact fr_cell (S := fun x => x = ha ∨ x = hb) (w := wr) (by repeat (first | exact Fr.refl _ _ | assumption | refine Fr.drew ?_ | refine Fr.alloc ?_ _ | refine Fr.setCell ?_ (by simp; try omega) _)) c4 nS4))
          (first | (go_at_call 44; refine (HEMP.out _).mono ?_; rintro e w1 ⟨rfl, rfl⟩))
        go_wp2_with fail
        go_roundw
        case measure => simp [intOf]; omega
        case rel =>
          have FR2 : Bk (Fr (fun x => x = ha ∨ x = hb) wr ((((wr.setCell ⟨ha, k, none⟩ (hdr m wr.heap.size)).setCell ⟨hb, k, none⟩ (hdr m (wr.heap.size + 1))).alloc (.cells (Array.replicate m (.bool false)) 4)).alloc (.cells (Array.replicate m (.bool false)) 4)).drew) := bk (by repeat (first | exact Fr.refl _ _ | assumption | refine Fr.drew ?_ | refine Fr.alloc ?_ _ | refine Fr.setCell ?_ (by simp; try omega) _))
          have hrep : Array.replicate m (Value.bool false) = (List.map Value.bool (List.replicate m false)).toArray := by simp
          have hgi : ∀ b ∈ gi, wc.heap.size ≤ b ∧ b < wr.heap.size := fun b hb => ⟨GE.out b (by simp [hb]), CI.out.lt b hb⟩
          have hgo : ∀ b ∈ go, wc.heap.size ≤ b ∧ b < wr.heap.size := fun b hb => ⟨GE.out b (by simp [hb]), CO.out.lt b hb⟩
          refine ⟨k + 1, by omega, by go_num, gi ++ [wr.heap.size], go ++ [wr.heap.size + 1], by simp [e1], by simp [e2], ?_, ?_, ?_, ?_, ?_, ?_, FR.out.trans FR2.out⟩
          · rw [← hds_set m gi bs.length k _ e1 hlt]
            exact ((((XA2.out.set k (hdr m wr.heap.size)).other ⟨hb, k, none⟩ (hdr m (wr.heap.size + 1)) nab).alloc _).alloc _).drew
          · rw [← hds_set m go bs.length k _ e2 hlt]
            exact ((((XB2.out.other ⟨ha, k, none⟩ (hdr m wr.heap.size) nab').set k (hdr m (wr.heap.size + 1))).alloc _).alloc _).drew
          · unfold noRows
            rw [List.replicate_succ']
            refine Cel.snoc (CI.out.keep fun b hb hlt' => FR2.out.block b hlt' (by have := hgi b hb; rintro (h | h) <;> omega)) ?_
            rw [← hrep]
            exact (Bx.alloc (Bx.new' (by simp)) _).drew
          · unfold noRows
            rw [List.replicate_succ']
            refine Cel.snoc (CO.out.keep fun b hb hlt' => FR2.out.block b hlt' (by have := hgo b hb; rintro (h | h) <;> omega)) ?_
            rw [← hrep]
            exact (Bx.new' (by simp)).drew
          · have hnd := ND.out
            rw [List.nodup_append] at hnd ⊢
            obtain ⟨d1, d2, d3⟩ := hnd
            refine ⟨List.nodup_append.2 ⟨d1, by simp, fun a ha b hb => ?_⟩, List.nodup_append.2 ⟨d2, by simp, fun a ha b hb => ?_⟩, fun a ha b hb => ?_⟩
            · simp at hb; have := hgi a ha; omega
            · simp at hb; have := hgo a ha; omega
            · simp only [List.mem_append, List.mem_singleton] at ha hb
              rcases ha with ha | ha <;> rcases hb with hb | hb
              · exact d3 a ha b hb
              · have := hgi a ha; omega
              · have := hgo b hb; omega
              · omega
          · intro b hb
            simp only [List.mem_append, List.mem_singleton] at hb
            rcases hb with (hb | hb) | (hb | hb)
            · exact (hgi b hb).1
            · omega
            · exact (hgo b hb).1
            · omega
        -- done]
      · have hkk : k = bs.length := by omega
        subst hkk
        rw [hds_all m gi _ e1] at XA2
        rw [hds_all m go _ e2] at XB2
        have c1 : wr.cell? ⟨w.heap.size, 1, none⟩ = some (.slice A bs.length c) := (X0.out.fr FR.out (by rintro (h | h) <;> omega)).cell 1
        have HBW := bk (HBC.out.trans (FR.out.to_below (fun x h => by rcases h with h | h <;> omega) HBC.out.size))
        have p0 : w.heap.size < wr.heap.size := by omega
        go_wp2_with fail
        refine (nextF bs _ _ _ wr (HA.out.below HBW.out) n1).mono ?_
        rintro e W1 ⟨⟨vn, rfl, hvn⟩, hbn⟩
        obtain ⟨An, cn, rfl, hcn, hnn⟩ := hvn.form
        have hnl : (bs.map nextB).length = bs.length := by simp
        rw [hnl] at hvn hcn hnn ⊢
        have HVN := bk hvn; have HBN := bk hbn
        have p1 : w.heap.size < W1.heap.size := by have := hbn.size; omega
        clear hvn hbn c0 c1 c3 c4
        go_wp2_with fail
        refine name_world (fun W2 hW2 => ?_)
        have hz2 : W2.heap.size = W1.heap.size + 2 := by subst hW2; simp
        have HB12 : Bk (Below W1.heap.size W1 W2) := by subst hW2; exact bk (by repeat (first | exact Below.refl _ _ | exact alloc1 _ _ | refine Below.drew ?_ | refine Below.alloc ?_ (by simp; try omega) _ | refine Below.setCell ?_ (by simp; try omega) _))
        have X6 : Bk (Bx W2 W1.heap.size #[.slice An bs.length cn] 66) := by subst hW2; exact bk ((Bx.new _ _ _).alloc _)
        have X7 : Bk (Bx W2 (W1.heap.size + 1) #[.bool true] 4) := by subst hW2; exact bk (Bx.new' (by simp))
        clear hW2
        have HBr2 := bk (below0 HBN.out HB12.out)
        have HF02 := bk ((FR.out).trans (Fr.of_below HBr2.out _))
        have X02 : Bk (Bx W2 w.heap.size _ _) := bk (X0.out.fr HF02.out (by rintro (h | h) <;> omega))
        have X12 : Bk (Bx W2 (w.heap.size + 1) _ _) := bk (X1.out.fr HF02.out (by have := HZ.out; rintro (h | h) <;> omega))
        have X32 : Bk (Bx W2 b3 _ _) := bk (X3.out.fr HF02.out (by rintro (h | h) <;> omega))
        have X42 : Bk (Bx W2 b4 _ _) := bk (X4.out.fr HF02.out (by rintro (h | h) <;> omega))
        have XA3 : Bk (Bx W2 ha _ _) := bk (XA2.out.below HBr2.out)
        have XB3 : Bk (Bx W2 hb _ _) := bk (XB2.out.below HBr2.out)
        have CI2 := bk (CI.out.below HBr2.out); have CO2 := bk (CO.out.below HBr2.out)
        have HBW2 := bk (below0 HBW.out HBr2.out)
        have HVN2 := bk ((HVN.out.mono (ok' := fun c => wr.heap.size ≤ c ∧ c < W1.heap.size) (fun b h1 h2 => ⟨h1, h2⟩)).below HB12.out)
        have HSZ : Bk (∀ x, x ∈ gi ∨ x ∈ go → wc.heap.size ≤ x ∧ x < wr.heap.size) := bk (fun x hx => by
          rcases hx with hx | hx
          · exact ⟨GE.out x (by simp [hx]), CI.out.lt x hx⟩
          · exact ⟨GE.out x (by simp [hx]), CO.out.lt x hx⟩)
        have hrs := HBN.out.size
        have HNS : Bk (∀ x, x < wc.heap.size ∨ x = W1.heap.size → ¬ (x ∈ gi ∨ x ∈ go ∨ x = W1.heap.size + 1)) := bk (fun x hx h => by
          have hsw := hs
          rcases h with h | h | h
          · have := HSZ.out x (.inl h); omega
          · have := HSZ.out x (.inr h); omega
          · omega)
        clear X0 X1 X3 X4 XA XB XA2 XB2 CI CO HVN
        refine wp_loop_upd (fun b : OfSt => [(7, .pointer (some ⟨b.b7, 0, none⟩)), (43, b.u43), (44, b.u44), (45, b.u45), (46, b.u46), (82, b.u82)]) (fun b => b.ds.map fun D => { target := .collected D, args := #[] })
          (fun b W => Wide bs.length m b.I ∧ Wide bs.length m b.O ∧ Cel W gi b.I ∧ Cel W go b.O ∧ Bx W b.b7 #[.bool b.mo] 4 ∧ W1.heap.size < b.b7 ∧ Fr (fun x => x ∈ gi ∨ x ∈ go ∨ x = W1.heap.size + 1) W2 W ∧ b.ds.Nodup ∧ (∀ D ∈ b.ds, W2.heap.size ≤ D ∧ W.heap[D]? = some (.deferred (some []))) ∧
            (b.mo = true → liveGo bs b.I b.O = liveGo bs (noRows bs.length m) (noRows bs.length m)) ∧ (b.mo = false → (liveGo bs (noRows bs.length m) (noRows bs.length m)).I = b.I ∧ (liveGo bs (noRows bs.length m) (noRows bs.length m)).O = b.O))
          (fun b => if b.mo then allFalses b.I + 1 else 0) ⟨undef, undef, undef, undef, undef, W1.heap.size + 1, [], noRows bs.length m, noRows bs.length m, true⟩ ?h0 rfl ?start ?round
        case h0 => simp only [List.foldl_cons, List.foldl_nil, List.setIfInBounds_toArray, List.set_cons_succ, List.set_cons_zero]
        case start => exact ⟨noRows_wide _ _, noRows_wide _ _, CI2.out, CO2.out, X7.out, by simp, Fr.refl _ _, List.nodup_nil, (fun D h => by cases h), fun _ => rfl, (fun h => by cases h)⟩
        case round =>
          rintro ⟨u43, u44, u45, u46, u82, b7, ds, I, O, mo⟩ W ⟨hwI, hwO, cI, cO, x7, g7, hfr, hnd, hds, hl1, hl2⟩
          dsimp only at hwI hwO cI cO x7 g7 hfr hnd hds hl1 hl2 ⊢
          simp only [List.foldl_cons, List.foldl_nil, List.setIfInBounds_toArray, List.set_cons_succ, List.set_cons_zero]
          have c7 : W.cell? ⟨b7, 0, none⟩ = some (.bool mo) := x7.cell 0
          have f7 := x7.frozen 0
          have HWI := bk hwI; have HWO := bk hwO; have CIW := bk cI; have COW := bk cO; have X7W := bk x7; have FRW := bk hfr; have NDW := bk hnd; have HDS := bk hds; have HL1 := bk hl1; have HL2 := bk hl2
          have c1 : W.cell? ⟨w.heap.size, 1, none⟩ = some (.slice A bs.length c) := (X02.out.fr hfr (HNS.out _ (.inl hlw))).cell 1
          have hsW := hfr.size
          have l7 := x7.lt
          clear hwI hwO cI cO x7 hfr hnd hds hl1 hl2
          cases mo with
          | false =>
            have n07 : w.heap.size < W.heap.size := by omega
            have n08 : w.heap.size < W.heap.size + 1 := by omega
            go_wp2_with fail
            refine name_world (fun W5 hW5 => ?_)
            have hz5 : W5.heap.size = W.heap.size + 1 := by subst hW5; simp
            have XL5 : Bk (Bx W5 W.heap.size #[.slice none 0 0, .slice none 0 0] 41) := by subst hW5; exact bk (Bx.new _ _ _)
            have B5 : Bk (Below W.heap.size W W5) := by subst hW5; exact bk (alloc1 _ _)
            clear hW5
            have CI5 := bk (CIW.out.below B5.out); have CO5 := bk (COW.out.below B5.out)
            have F25 := bk (FRW.out.trans (Fr.of_below (B5.out) _))
            have X35 := bk (X32.out.fr F25.out (HNS.out _ (.inl L3)))
            have X45 := bk (X42.out.fr F25.out (HNS.out _ (.inl L4)))
            have XA5 := bk (XA3.out.fr F25.out (HNS.out _ (.inl LA)))
            have XB5 := bk (XB3.out.fr F25.out (HNS.out _ (.inl LB)))
            have X15 := bk (X12.out.fr F25.out (HNS.out _ (.inl (by have := HZ.out; omega))))
            go_loopw [86] (fun j wk => ∃ (k : Nat) (vi vo : Value), k ≤ bs.length ∧ j = .int .i64 k ∧ Bx wk W.heap.size #[vi, vo] 41 ∧ OwS (hdr m) 57 wk W5.heap.size (gi.take k) vi ∧ OwS (hdr m) 57 wk W5.heap.size (go.take k) vo ∧
              (∀ b, vi.ownBlock = some b → vo.ownBlock ≠ some b) ∧ Below W.heap.size W5 wk) (fun j _ => bs.length - (intOf j).toNat)
            case atStart => exact ⟨0, _, _, Nat.zero_le _, rfl, XL5.out, OwS.nil' _ _, OwS.nil' _ _, (fun b h => by simp [Value.ownBlock] at h), Below.refl _ _⟩
            case round =>
              obtain ⟨Wk, rfl⟩ : ∃ W', W' = wr := ⟨_, rfl⟩
              obtain ⟨k, vi, vo, hk, rfl, xl, hoi, hoo, hdif, hbk⟩ := hrel
              have lb : W.heap.size < Wk.heap.size := xl.lt
              by_cases hlt : k < bs.length
              · have hki : k < gi.length := by omega
                have hko : k < go.length := by omega
                have hli : (gi.take k).length = k := by rw [List.length_take]; omega
                have hlo : (go.take k).length = k := by rw [List.length_take]; omega
                obtain ⟨Ai, cai, rfl, _⟩ := hoi.any
                obtain ⟨Ao, cao, rfl, _⟩ := hoo.any
                rw [hli] at hoi xl hdif
                rw [hlo] at hoo xl hdif
                have k3 : Wk.cell? ⟨b3, 0, none⟩ = some (.slice (some ⟨ha, 0, none⟩) bs.length bs.length) := (hbk.cell (p := ⟨b3, 0, none⟩) (by show b3 < _; omega)).trans (X35.out.cell 0)
                have k4 : Wk.cell? ⟨b4, 0, none⟩ = some (.slice (some ⟨hb, 0, none⟩) bs.length bs.length) := (hbk.cell (p := ⟨b4, 0, none⟩) (by show b4 < _; omega)).trans (X45.out.cell 0)
                have ka : Wk.cell? ⟨ha, k, none⟩ = some (.slice (some ⟨gi[k], 0, none⟩) m m) := by
                  rw [hbk.cell (p := ⟨ha, k, none⟩) (by show ha < _; omega), XA5.out.cell]; simp [hki, hdr]
                have kb : Wk.cell? ⟨hb, k, none⟩ = some (.slice (some ⟨go[k], 0, none⟩) m m) := by
                  rw [hbk.cell (p := ⟨hb, k, none⟩) (by show hb < _; omega), XB5.out.cell]; simp [hko, hdr]
                have kl0 : Wk.cell? ⟨W.heap.size, 0, none⟩ = some (.slice Ai k cai) := xl.cell 0
                have kl1 : Wk.cell? ⟨W.heap.size, 1, none⟩ = some (.slice Ao k cao) := xl.cell 1
                have kf0 : ∀ j, Wk.frozen? ⟨W.heap.size, j, none⟩ = false := xl.frozen
                have hvi := hoi.lt
                have hvo := hoo.lt
                have HVI := bk hvi; have HVO := bk hvo
                have HOI := bk hoi; have HOO := bk hoo; have HDIF := bk hdif; have HBK := bk hbk; have XLK := bk xl
                obtain ⟨T, hT⟩ : ∃ T : Nat → Prop, T = fun b => (Value.slice Ai k cai).ownBlock = some b ∨ (Value.slice Ao k cao).ownBlock = some b ∨ b = W.heap.size := ⟨_, rfl⟩
                have hTo : ∀ y, y < W.heap.size → ¬ T y := fun y hy h => by
                  rw [hT] at h
                  rcases h with h | h | h
                  · have := (hvi y h).1; omega
                  · have := (hvo y h).1; omega
                  · omega
                have nT3 := hTo b3 (by omega)
                have nT4 := hTo b4 (by omega)
                have nTa := hTo ha (by omega)
                have nTb := hTo hb (by omega)
                have hTb : T W.heap.size := by rw [hT]; exact .inr (.inr rfl)
                have hTi : ∀ b, (Value.slice Ai k cai).ownBlock = some b → T b := fun b h => by rw [hT]; exact .inl h
                have hTo2 : ∀ b, (Value.slice Ao k cao).ownBlock = some b → T b := fun b h => by rw [hT]; exact .inr (.inl h)
                have HTI := bk hTi; have HTO := bk hTo2
                have sz5 : W5.heap.size ≤ Wk.heap.size := hbk.size
                clear hoi hoo hdif hbk xl hTo hTi hTo2 hT hvi hvo
                have qb1 : W.heap.size < Wk.heap.size + 1 := by omega
                have qb2 : W.heap.size < Wk.heap.size + 1 + 1 := by omega
                have qn1 : Wk.heap.size ≠ W.heap.size := by omega
                have qn2 : W.heap.size ≠ Wk.heap.size := by omega
                have HREL : Bk (∀ {v1 v2 : Value} {w1 w2 : World}, OwS (hdr m) 57 w1 W5.heap.size (gi.take k ++ [gi[k]]) v1 → OwS (hdr m) 57 w2 W5.heap.size (go.take k ++ [go[k]]) v2 → (v1.ownBlock = (Value.slice Ai k cai).ownBlock ∨ ∃ b, v1.ownBlock = some b ∧ Wk.heap.size ≤ b) →
                    (v2.ownBlock = (Value.slice Ao k cao).ownBlock ∨ ∃ b, v2.ownBlock = some b ∧ w1.heap.size ≤ b) → Fr (fun b => (Value.slice Ai k cai).ownBlock = some b) Wk w1 → Fr (fun b => (Value.slice Ao k cao).ownBlock = some b) w1 w2 →
                    ∃ (k' : Nat) (vi vo : Value), k' ≤ bs.length ∧ Value.int .i64 ((k : Int) + 1) = .int .i64 k' ∧ Bx ((w2.setCell ⟨W.heap.size, 0, none⟩ v1).setCell ⟨W.heap.size, 1, none⟩ v2) W.heap.size #[vi, vo] 41 ∧ OwS (hdr m) 57 ((w2.setCell ⟨W.heap.size, 0, none⟩ v1).setCell ⟨W.heap.size, 1, none⟩ v2) W5.heap.size (gi.take k') vi ∧
                      OwS (hdr m) 57 ((w2.setCell ⟨W.heap.size, 0, none⟩ v1).setCell ⟨W.heap.size, 1, none⟩ v2) W5.heap.size (go.take k') vo ∧ (∀ b, vi.ownBlock = some b → vo.ownBlock ≠ some b) ∧ Below W.heap.size W5 ((w2.setCell ⟨W.heap.size, 0, none⟩ v1).setCell ⟨W.heap.size, 1, none⟩ v2)) := bk (by
                  intro v1 v2 w1 w2 h1 h2 a1 a2 f1 f2
                  have l1 := h1.lt
                  have l2 := h2.lt
                  have s1 := f1.size
                  have s2 := f2.size
                  have hdf : ∀ b, v1.ownBlock = some b → ¬ (Value.slice Ao k cao).ownBlock = some b := fun b hb e => by
                    have e2 := HVO.out b e
                    rcases a1 with a1 | ⟨b', a1, a1'⟩
                    · exact HDIF.out b (a1 ▸ hb) e
                    · rw [a1] at hb; cases hb; omega
                  have h1' := h1.fr f2 hdf
                  have fs : Fr (fun b => b = W.heap.size) w2 ((w2.setCell ⟨W.heap.size, 0, none⟩ v1).setCell ⟨W.heap.size, 1, none⟩ v2) := ((Fr.refl (fun b => b = W.heap.size) w2).setCell (p := ⟨W.heap.size, 0, none⟩) (fun _ => rfl) _).setCell (p := ⟨W.heap.size, 1, none⟩) (fun _ => rfl) _
                  refine ⟨k + 1, v1, v2, by omega, by simp, ?_, ?_, ?_, ?_, ?_⟩
                  · exact (((XLK.out.fr f1 (fun e => by have := HVI.out _ e; omega)).fr f2 (fun e => by have := HVO.out _ e; omega)).set 0 v1).set 1 v2
                  · rw [List.take_succ_eq_append_getElem hki]
                    exact h1'.fr fs (fun b hb e => by have := l1 b hb; omega)
                  · rw [List.take_succ_eq_append_getElem hko]
                    exact h2.fr fs (fun b hb e => by have := l2 b hb; omega)
                  · intro b hb e
                    rcases a2 with a2 | ⟨b', a2, a2'⟩
                    · exact hdf b hb (a2 ▸ e)
                    · rw [a2] at e; cases e; have := l1 b hb; omega
                  · refine HBK.out.trans (Fr.to_below (S := fun b => W.heap.size ≤ b) ?_ (fun b h => h) (by omega))
                    exact ((f1.mono (fun b _ e => by have := HVI.out b e; omega)).trans (f2.mono (fun b _ e => by have := HVO.out b e; omega))).trans (fs.mono (fun b _ e => by omega)))
                go_upto_region 26 with fail
                -- [done2
                -- <R26
                refine wp_region_noPanic ?_
                refine wp_region_G [17, 18, 19] (fun w' => w'.cell? ⟨W.heap.size, 0, none⟩ = some (.slice Ai k cai) ∧ w'.cell? ⟨W.heap.size, 1, none⟩ = some (.slice Ao k cao) ∧ w'.cell? ⟨b3, 0, none⟩ = some (.slice (some ⟨ha, 0, none⟩) bs.length bs.length) ∧ w'.cell? ⟨b4, 0, none⟩ = some (.slice (some ⟨hb, 0, none⟩) bs.length bs.length) ∧ w'.cell? ⟨ha, k, none⟩ = some (.slice (some ⟨gi[k], 0, none⟩) m m) ∧ w'.cell? ⟨hb, k, none⟩ = some (.slice (some ⟨go[k], 0, none⟩) m m)) (by kernel_rfl) ?_
                refine GoG.take 0 rfl (by kernel_rfl) (fun c a w h => h) ⟨kl0, kl1, k3, k4, ka, kb⟩ ?_ (by rfl) ?_ ?_
                rotate_left 1
                · intro w hSw
                  obtain ⟨s1, s2, s3, s4, s5, s6⟩ := hSw
                  go_simp
                  with_reducible rfl
                try simp only [Act.put, List.setIfInBounds_toArray, List.set_cons_zero, List.set_cons_succ]
                refine GoG.take 1 rfl (by kernel_rfl) (fun c a w h => h) ⟨kl0, kl1, k3, k4, ka, kb⟩ ?_ (by rfl) ?_ ?_
                rotate_left 1
                · intro w hSw
                  obtain ⟨s1, s2, s3, s4, s5, s6⟩ := hSw
                  go_simp
                  with_reducible rfl
                try simp only [Act.put, List.setIfInBounds_toArray, List.set_cons_zero, List.set_cons_succ]
                refine GoG.take 2 rfl (by kernel_rfl) (fun c a w h => h) ⟨kl0, kl1, k3, k4, ka, kb⟩ ?_ (by rfl) ?_ ?_
                rotate_left 1
                · intro w hSw
                  obtain ⟨s1, s2, s3, s4, s5, s6⟩ := hSw
                  go_simp
                  with_reducible rfl
                try simp only [Act.put, List.setIfInBounds_toArray, List.set_cons_zero, List.set_cons_succ]
                refine GoG.take 3 rfl (by kernel_rfl) (fun c a w h => h) ⟨kl0, kl1, k3, k4, ka, kb⟩ ?_ (by rfl) ?_ ?_
                rotate_left 1
                · intro w hSw
                  obtain ⟨s1, s2, s3, s4, s5, s6⟩ := hSw
                  go_simp
                  with_reducible rfl
                try simp only [Act.put, List.setIfInBounds_toArray, List.set_cons_zero, List.set_cons_succ]
                refine GoG.take 4 rfl (by kernel_rfl) (fun c a w h => h) ⟨kl0, kl1, k3, k4, ka, kb⟩ ?_ (by rfl) ?_ ?_
                rotate_left 1
                · intro w hSw
                  obtain ⟨s1, s2, s3, s4, s5, s6⟩ := hSw
                  go_simp
                  with_reducible rfl
                try simp only [Act.put, List.setIfInBounds_toArray, List.set_cons_zero, List.set_cons_succ]
                refine GoG.take 5 rfl (by kernel_rfl) (fun c a w h => h) ⟨kl0, kl1, k3, k4, ka, kb⟩ ?_ (by rfl) ?_ ?_
                rotate_left 1
                · intro w hSw
                  obtain ⟨s1, s2, s3, s4, s5, s6⟩ := hSw
                  go_simp
                  with_reducible rfl
                try simp only [Act.put, List.setIfInBounds_toArray, List.set_cons_zero, List.set_cons_succ]
                refine GoG.take 8 rfl (by kernel_rfl) (fun c a w h => h) ⟨kl0, kl1, k3, k4, ka, kb⟩ ?_ (by rfl) ?_ ?_
                rotate_left 1
                · intro w hSw
                  obtain ⟨s1, s2, s3, s4, s5, s6⟩ := hSw
                  go_simp
                  with_reducible rfl
                try simp only [Act.put, List.setIfInBounds_toArray, List.set_cons_zero, List.set_cons_succ]
                refine GoG.take 9 rfl (by kernel_rfl) (fun c a w h => h) ⟨kl0, kl1, k3, k4, ka, kb⟩ ?_ (by rfl) ?_ ?_
                rotate_left 1
                · intro w hSw
                  obtain ⟨s1, s2, s3, s4, s5, s6⟩ := hSw
                  go_simp
                  with_reducible rfl
                try simp only [Act.put, List.setIfInBounds_toArray, List.set_cons_zero, List.set_cons_succ]
                refine GoG.take 10 rfl (by kernel_rfl) (fun c a w h => h) ⟨kl0, kl1, k3, k4, ka, kb⟩ ?_ (by rfl) ?_ ?_
                rotate_left 1
                · intro w hSw
                  obtain ⟨s1, s2, s3, s4, s5, s6⟩ := hSw
                  go_simp
                  with_reducible rfl
                try simp only [Act.put, List.setIfInBounds_toArray, List.set_cons_zero, List.set_cons_succ]
                refine GoG.take 11 rfl (by kernel_rfl) (fun c a w h => h) ⟨kl0, kl1, k3, k4, ka, kb⟩ ?_ (by rfl) ?_ ?_
                rotate_left 1
                · intro w hSw
                  obtain ⟨s1, s2, s3, s4, s5, s6⟩ := hSw
                  go_simp
                  with_reducible rfl
                try simp only [Act.put, List.setIfInBounds_toArray, List.set_cons_zero, List.set_cons_succ]
                refine GoG.take 12 rfl (by kernel_rfl) (fun c a w h => h) ⟨kl0, kl1, k3, k4, ka, kb⟩ ?_ (by rfl) ?_ ?_
                rotate_left 1
                · intro w hSw
                  obtain ⟨s1, s2, s3, s4, s5, s6⟩ := hSw
                  go_simp
                  with_reducible rfl
                try simp only [Act.put, List.setIfInBounds_toArray, List.set_cons_zero, List.set_cons_succ]
                refine GoG.take 13 rfl (by kernel_rfl) (fun c a w h => h) ⟨kl0, kl1, k3, k4, ka, kb⟩ ?_ (by rfl) ?_ ?_
                rotate_left 1
                · intro w hSw
                  obtain ⟨s1, s2, s3, s4, s5, s6⟩ := hSw
                  go_simp
                  with_reducible rfl
                try simp only [Act.put, List.setIfInBounds_toArray, List.set_cons_zero, List.set_cons_succ]
                refine GoG.two 6 14 rfl rfl (by kernel_rfl) (fun K hK => ?_) (fun K hK => ?_)
                · go_simp
                  refine hK _ _ (fun _ => ⟨cell_below (by repeat (first | exact Below.refl _ _ | exact alloc1 _ _ | refine Below.drew ?_ | refine Below.alloc ?_ (by simp; try omega) _ | refine Below.setCell ?_ (by simp; try omega) _)) kl0, cell_below (by repeat (first | exact Below.refl _ _ | exact alloc1 _ _ | refine Below.drew ?_ | refine Below.alloc ?_ (by simp; try omega) _ | refine Below.setCell ?_ (by simp; try omega) _)) kl1, cell_below (by repeat (first | exact Below.refl _ _ | exact alloc1 _ _ | refine Below.drew ?_ | refine Below.alloc ?_ (by simp; try omega) _ | refine Below.setCell ?_ (by simp; try omega) _)) k3, cell_below (by repeat (first | exact Below.refl _ _ | exact alloc1 _ _ | refine Below.drew ?_ | refine Below.alloc ?_ (by simp; try omega) _ | refine Below.setCell ?_ (by simp; try omega) _)) k4, cell_below (by repeat (first | exact Below.refl _ _ | exact alloc1 _ _ | refine Below.drew ?_ | refine Below.alloc ?_ (by simp; try omega) _ | refine Below.setCell ?_ (by simp; try omega) _)) ka, cell_below (by repeat (first | exact Below.refl _ _ | exact alloc1 _ _ | refine Below.drew ?_ | refine Below.alloc ?_ (by simp; try omega) _ | refine Below.setCell ?_ (by simp; try omega) _)) kb⟩) ?_
                  clear hK K
                  try simp only [Act.put, List.setIfInBounds_toArray, List.set_cons_zero, List.set_cons_succ]
                  refine GoG.two 7 14 rfl rfl (by kernel_rfl) (fun K hK => ?_) (fun K hK => ?_)
                  · refine OwS.wp_appends (hdr m) (hdr_one m) (by rfl) _ _ 31 57 (.slice none 0 0) 24 (by rfl) Try.underlying31 infoR rfl (by decide) W5.heap.size (fun _ => True) _ (.slice Ai k cai) (gi.take k) [gi[k]] (some ⟨_, 0, none⟩) 1 1 (by rfl) (by rfl) (HOI.out.below (by repeat (first | exact Below.refl _ _ | exact alloc1 _ _ | refine Below.drew ?_ | refine Below.alloc ?_ (by simp; try omega) _ | refine Below.setCell ?_ (by simp; try omega) _))) (Sl.of_bx (b := _) (t := 57) [gi[k]] 1 (by exact Bx.new' (by simp)) rfl trivial (by simp) (by simp) rfl) (by first | omega | (simp; done) | (simp; omega)) (by first | omega | (simp; done) | (simp; omega)) ?_
                    intro v1 w1 hown hg hat
                    have hsz1 : Wk.heap.size ≤ w1.heap.size := by have := hg.size; simp at this; omega
                    have FRV1 : Fr (fun b => (Value.slice Ai k cai).ownBlock = some b) Wk w1 := Fr.grown (by repeat (first | exact Fr.refl _ _ | refine Fr.drew ?_ | refine Fr.alloc ?_ _)) hg (fun q e _ => e)
                    have HAT1 : Bk (v1.ownBlock = (Value.slice Ai k cai).ownBlock ∨ ∃ b, v1.ownBlock = some b ∧ Wk.heap.size ≤ b) := bk (hat.imp id (fun h => ⟨_, h, (by first | omega | (simp; done) | (simp; omega))⟩))
                    have HOO1 := bk (HOO.out.fr FRV1 (fun b hb e => HDIF.out b e hb))
                    have HGB := bk hg.block
                    obtain ⟨Ai1, ci1, hv1, _⟩ := hown.any
                    rw [show (gi.take k ++ [gi[k]]).length = k + 1 by rw [List.length_append, hli]; rfl] at hv1
                    subst hv1
                    have HI1 := bk hown
                    have nv : ∀ y, y ≤ W.heap.size → ¬ (Value.slice Ai k cai).ownBlock = some y := fun y hy e => by have := HVI.out y e; omega
                    have j0 := fr_cell (a := ⟨W.heap.size, 0, none⟩) FRV1 kl0 (nv _ (Nat.le_refl _))
                    have j1 := fr_cell (a := ⟨W.heap.size, 1, none⟩) FRV1 kl1 (nv _ (Nat.le_refl _))
                    have j3 := fr_cell (a := ⟨b3, 0, none⟩) FRV1 k3 (nv _ (by show b3 ≤ _; omega))
                    have j4 := fr_cell (a := ⟨b4, 0, none⟩) FRV1 k4 (nv _ (by show b4 ≤ _; omega))
                    have ja := fr_cell (a := ⟨ha, k, none⟩) FRV1 ka (nv _ (by show ha ≤ _; omega))
                    have jb := fr_cell (a := ⟨hb, k, none⟩) FRV1 kb (nv _ (by show hb ≤ _; omega))
                    have jf := fun j => (FRV1.frozens W.heap.size j lb (nv _ (Nat.le_refl _))).trans (kf0 j)
                    have HFV1 := bk FRV1
                    clear hown hg hat FRV1 nv
                    refine hK _ _ (fun _ => ⟨j0, j1, j3, j4, ja, jb⟩) ?_
                    clear hK K
                    try simp only [Act.put, List.setIfInBounds_toArray, List.set_cons_zero, List.set_cons_succ]
                    refine GoG.take 16 rfl (by kernel_rfl) (fun c a w h => h) ⟨j0, j1, j3, j4, ja, jb⟩ ?_ (by rfl) ?_ ?_
                    rotate_left 1
                    · intro w hSw
                      obtain ⟨s1, s2, s3, s4, s5, s6⟩ := hSw
                      go_simp
                      with_reducible rfl
                    try simp only [Act.put, List.setIfInBounds_toArray, List.set_cons_zero, List.set_cons_succ]
                    refine GoG.alone 14 rfl (by kernel_rfl) (fun K hK => ?_)
                    go_simp
                    refine hK _ _ (fun _ => ⟨cell_below (by repeat (first | exact Below.refl _ _ | exact alloc1 _ _ | refine Below.drew ?_ | refine Below.alloc ?_ (by simp; try omega) _ | refine Below.setCell ?_ (by simp; try omega) _)) j0, cell_below (by repeat (first | exact Below.refl _ _ | exact alloc1 _ _ | refine Below.drew ?_ | refine Below.alloc ?_ (by simp; try omega) _ | refine Below.setCell ?_ (by simp; try omega) _)) j1, cell_below (by repeat (first | exact Below.refl _ _ | exact alloc1 _ _ | refine Below.drew ?_ | refine Below.alloc ?_ (by simp; try omega) _ | refine Below.setCell ?_ (by simp; try omega) _)) j3, cell_below (by repeat (first | exact Below.refl _ _ | exact alloc1 _ _ | refine Below.drew ?_ | refine Below.alloc ?_ (by simp; try omega) _ | refine Below.setCell ?_ (by simp; try omega) _)) j4, cell_below (by repeat (first | exact Below.refl _ _ | exact alloc1 _ _ | refine Below.drew ?_ | refine Below.alloc ?_ (by simp; try omega) _ | refine Below.setCell ?_ (by simp; try omega) _)) ja, cell_below (by repeat (first | exact Below.refl _ _ | exact alloc1 _ _ | refine Below.drew ?_ | refine Below.alloc ?_ (by simp; try omega) _ | refine Below.setCell ?_ (by simp; try omega) _)) jb⟩) ?_
                    clear hK K
                    try simp only [Act.put, List.setIfInBounds_toArray, List.set_cons_zero, List.set_cons_succ]
                    refine GoG.alone 15 rfl (by kernel_rfl) (fun K hK => ?_)
                    refine OwS.wp_appends (hdr m) (hdr_one m) (by rfl) _ _ 31 57 (.slice none 0 0) 24 (by rfl) Try.underlying31 infoR rfl (by decide) W5.heap.size (fun _ => True) _ (.slice Ao k cao) (go.take k) [go[k]] (some ⟨_, 0, none⟩) 1 1 (by rfl) (by rfl) (HOO1.out.below (by repeat (first | exact Below.refl _ _ | exact alloc1 _ _ | refine Below.drew ?_ | refine Below.alloc ?_ (by simp; try omega) _ | refine Below.setCell ?_ (by simp; try omega) _))) (Sl.of_bx (b := _) (t := 57) [go[k]] 1 (by exact Bx.new' (by simp)) rfl trivial (by simp) (by simp) rfl) (by first | omega | (simp; done) | (simp; omega)) (by first | omega | (simp; done) | (simp; omega)) ?_
                    intro v2 w2 hown hg hat
                    have FRV2 : Fr (fun b => (Value.slice Ao k cao).ownBlock = some b) w1 w2 := Fr.grown (by repeat (first | exact Fr.refl _ _ | refine Fr.drew ?_ | refine Fr.alloc ?_ _)) hg (fun q e _ => e)
                    have HAT2 : Bk (v2.ownBlock = (Value.slice Ao k cao).ownBlock ∨ ∃ b, v2.ownBlock = some b ∧ w1.heap.size ≤ b) := bk (hat.imp id (fun h => ⟨_, h, (by first | omega | (simp; done) | (simp; omega))⟩))
                    obtain ⟨Ao1, co1, hv2, _⟩ := hown.any
                    rw [show (go.take k ++ [go[k]]).length = k + 1 by rw [List.length_append, hlo]; rfl] at hv2
                    subst hv2
                    have HO2 := bk hown
                    have nv : ∀ y, y ≤ W.heap.size → ¬ (Value.slice Ao k cao).ownBlock = some y := fun y hy e => by have := HVO.out y e; omega
                    have i0 := fr_cell (a := ⟨W.heap.size, 0, none⟩) FRV2 j0 (nv _ (Nat.le_refl _))
                    have i1 := fr_cell (a := ⟨W.heap.size, 1, none⟩) FRV2 j1 (nv _ (Nat.le_refl _))
                    have i3 := fr_cell (a := ⟨b3, 0, none⟩) FRV2 j3 (nv _ (by show b3 ≤ _; omega))
                    have i4 := fr_cell (a := ⟨b4, 0, none⟩) FRV2 j4 (nv _ (by show b4 ≤ _; omega))
                    have ia := fr_cell (a := ⟨ha, k, none⟩) FRV2 ja (nv _ (by show ha ≤ _; omega))
                    have ib := fr_cell (a := ⟨hb, k, none⟩) FRV2 jb (nv _ (by show hb ≤ _; omega))
                    have hsz2 : w1.heap.size ≤ w2.heap.size := FRV2.size
                    have if2 := fun j => (FRV2.frozens W.heap.size j (by omega) (nv _ (Nat.le_refl _))).trans (jf j)
                    have HFV2 := bk FRV2
                    clear hown hg hat FRV2 nv
                    refine hK _ _ (fun _ => ⟨i0, i1, i3, i4, ia, ib⟩) ?_
                    clear hK K
                    try simp only [Act.put, List.setIfInBounds_toArray, List.set_cons_zero, List.set_cons_succ]
                    refine GoG.alone 17 rfl (by kernel_rfl) (fun K hK => ?_)
                    go_simp
                    refine hK _ _ (fun h => absurd (show true = false from h) (by decide)) ?_
                    clear hK K
                    try simp only [Act.put, List.setIfInBounds_toArray, List.set_cons_zero, List.set_cons_succ]
                    refine GoG.alone 18 rfl (by kernel_rfl) (fun K hK => ?_)
                    go_simp
                    refine hK _ _ (fun h => absurd (show true = false from h) (by decide)) ?_
                    clear hK K
                    try simp only [Act.put, List.setIfInBounds_toArray, List.set_cons_zero, List.set_cons_succ]
                    refine GoG.alone 19 rfl (by kernel_rfl) (fun K hK => ?_)
                    go_simp
                    refine hK _ _ (fun h => absurd (show true = false from h) (by decide)) ?_
                    clear hK K
                    try simp only [Act.put, List.setIfInBounds_toArray, List.set_cons_zero, List.set_cons_succ]
                    refine GoG.done (by kernel_rfl) ?_
                    refine NoPanic.normal ?_
                    go_wp2_with fail
                    go_roundw
                    case measure => simp [intOf]; omega
                    case rel => exact HREL.out HI1.out HO2.out HAT1.out HAT2.out HFV1.out HFV2.out
                  · go_simp
                    refine hK _ _ (fun _ => ⟨cell_below (by repeat (first | exact Below.refl _ _ | exact alloc1 _ _ | refine Below.drew ?_ | refine Below.alloc ?_ (by simp; try omega) _ | refine Below.setCell ?_ (by simp; try omega) _)) kl0, cell_below (by repeat (first | exact Below.refl _ _ | exact alloc1 _ _ | refine Below.drew ?_ | refine Below.alloc ?_ (by simp; try omega) _ | refine Below.setCell ?_ (by simp; try omega) _)) kl1, cell_below (by repeat (first | exact Below.refl _ _ | exact alloc1 _ _ | refine Below.drew ?_ | refine Below.alloc ?_ (by simp; try omega) _ | refine Below.setCell ?_ (by simp; try omega) _)) k3, cell_below (by repeat (first | exact Below.refl _ _ | exact alloc1 _ _ | refine Below.drew ?_ | refine Below.alloc ?_ (by simp; try omega) _ | refine Below.setCell ?_ (by simp; try omega) _)) k4, cell_below (by repeat (first | exact Below.refl _ _ | exact alloc1 _ _ | refine Below.drew ?_ | refine Below.alloc ?_ (by simp; try omega) _ | refine Below.setCell ?_ (by simp; try omega) _)) ka, cell_below (by repeat (first | exact Below.refl _ _ | exact alloc1 _ _ | refine Below.drew ?_ | refine Below.alloc ?_ (by simp; try omega) _ | refine Below.setCell ?_ (by simp; try omega) _)) kb⟩) ?_
                    clear hK K
                    try simp only [Act.put, List.setIfInBounds_toArray, List.set_cons_zero, List.set_cons_succ]
                    refine GoG.alone 7 rfl (by kernel_rfl) (fun K hK => ?_)
                    refine OwS.wp_appends (hdr m) (hdr_one m) (by rfl) _ _ 31 57 (.slice none 0 0) 24 (by rfl) Try.underlying31 infoR rfl (by decide) W5.heap.size (fun _ => True) _ (.slice Ai k cai) (gi.take k) [gi[k]] (some ⟨_, 0, none⟩) 1 1 (by rfl) (by rfl) (HOI.out.below (by repeat (first | exact Below.refl _ _ | exact alloc1 _ _ | refine Below.drew ?_ | refine Below.alloc ?_ (by simp; try omega) _ | refine Below.setCell ?_ (by simp; try omega) _))) (Sl.of_bx (b := _) (t := 57) [gi[k]] 1 (by exact (Bx.new' (by simp)).alloc _) rfl trivial (by simp) (by simp) rfl) (by first | omega | (simp; done) | (simp; omega)) (by first | omega | (simp; done) | (simp; omega)) ?_
                    intro v1 w1 hown hg hat
                    have hsz1 : Wk.heap.size ≤ w1.heap.size := by have := hg.size; simp at this; omega
                    have FRV1 : Fr (fun b => (Value.slice Ai k cai).ownBlock = some b) Wk w1 := Fr.grown (by repeat (first | exact Fr.refl _ _ | refine Fr.drew ?_ | refine Fr.alloc ?_ _)) hg (fun q e _ => e)
                    have HAT1 : Bk (v1.ownBlock = (Value.slice Ai k cai).ownBlock ∨ ∃ b, v1.ownBlock = some b ∧ Wk.heap.size ≤ b) := bk (hat.imp id (fun h => ⟨_, h, (by first | omega | (simp; done) | (simp; omega))⟩))
                    have HOO1 := bk (HOO.out.fr FRV1 (fun b hb e => HDIF.out b e hb))
                    have HGB := bk hg.block
                    obtain ⟨Ai1, ci1, hv1, _⟩ := hown.any
                    rw [show (gi.take k ++ [gi[k]]).length = k + 1 by rw [List.length_append, hli]; rfl] at hv1
                    subst hv1
                    have HI1 := bk hown
                    have nv : ∀ y, y ≤ W.heap.size → ¬ (Value.slice Ai k cai).ownBlock = some y := fun y hy e => by have := HVI.out y e; omega
                    have j0 := fr_cell (a := ⟨W.heap.size, 0, none⟩) FRV1 kl0 (nv _ (Nat.le_refl _))
                    have j1 := fr_cell (a := ⟨W.heap.size, 1, none⟩) FRV1 kl1 (nv _ (Nat.le_refl _))
                    have j3 := fr_cell (a := ⟨b3, 0, none⟩) FRV1 k3 (nv _ (by show b3 ≤ _; omega))
                    have j4 := fr_cell (a := ⟨b4, 0, none⟩) FRV1 k4 (nv _ (by show b4 ≤ _; omega))
                    have ja := fr_cell (a := ⟨ha, k, none⟩) FRV1 ka (nv _ (by show ha ≤ _; omega))
                    have jb := fr_cell (a := ⟨hb, k, none⟩) FRV1 kb (nv _ (by show hb ≤ _; omega))
                    have jf := fun j => (FRV1.frozens W.heap.size j lb (nv _ (Nat.le_refl _))).trans (kf0 j)
                    have HFV1 := bk FRV1
                    clear hown hg hat FRV1 nv
                    refine hK _ _ (fun _ => ⟨j0, j1, j3, j4, ja, jb⟩) ?_
                    clear hK K
                    try simp only [Act.put, List.setIfInBounds_toArray, List.set_cons_zero, List.set_cons_succ]
                    refine GoG.take 16 rfl (by kernel_rfl) (fun c a w h => h) ⟨j0, j1, j3, j4, ja, jb⟩ ?_ (by rfl) ?_ ?_
                    rotate_left 1
                    · intro w hSw
                      obtain ⟨s1, s2, s3, s4, s5, s6⟩ := hSw
                      go_simp
                      with_reducible rfl
                    try simp only [Act.put, List.setIfInBounds_toArray, List.set_cons_zero, List.set_cons_succ]
                    refine GoG.alone 15 rfl (by kernel_rfl) (fun K hK => ?_)
                    refine OwS.wp_appends (hdr m) (hdr_one m) (by rfl) _ _ 31 57 (.slice none 0 0) 24 (by rfl) Try.underlying31 infoR rfl (by decide) W5.heap.size (fun _ => True) _ (.slice Ao k cao) (go.take k) [go[k]] (some ⟨_, 0, none⟩) 1 1 (by rfl) (by rfl) (HOO1.out.below (by repeat (first | exact Below.refl _ _ | exact alloc1 _ _ | refine Below.drew ?_ | refine Below.alloc ?_ (by simp; try omega) _ | refine Below.setCell ?_ (by simp; try omega) _))) (Sl.of_bx (b := _) (t := 57) [go[k]] 1 (by exact bx_old (Bx.new' (by simp)) HGB.out (by first | omega | (simp; done) | (simp; omega)) (fun e => by have := HVI.out _ e.symm; first | omega | (simp at this; done) | (simp at this; omega))) rfl trivial (by simp) (by simp) rfl) (by first | omega | (simp; done) | (simp; omega)) (by first | omega | (simp; done) | (simp; omega)) ?_
                    intro v2 w2 hown hg hat
                    have FRV2 : Fr (fun b => (Value.slice Ao k cao).ownBlock = some b) w1 w2 := Fr.grown (by repeat (first | exact Fr.refl _ _ | refine Fr.drew ?_ | refine Fr.alloc ?_ _)) hg (fun q e _ => e)
                    have HAT2 : Bk (v2.ownBlock = (Value.slice Ao k cao).ownBlock ∨ ∃ b, v2.ownBlock = some b ∧ w1.heap.size ≤ b) := bk (hat.imp id (fun h => ⟨_, h, (by first | omega | (simp; done) | (simp; omega))⟩))
                    obtain ⟨Ao1, co1, hv2, _⟩ := hown.any
                    rw [show (go.take k ++ [go[k]]).length = k + 1 by rw [List.length_append, hlo]; rfl] at hv2
                    subst hv2
                    have HO2 := bk hown
                    have nv : ∀ y, y ≤ W.heap.size → ¬ (Value.slice Ao k cao).ownBlock = some y := fun y hy e => by have := HVO.out y e; omega
                    have i0 := fr_cell (a := ⟨W.heap.size, 0, none⟩) FRV2 j0 (nv _ (Nat.le_refl _))
                    have i1 := fr_cell (a := ⟨W.heap.size, 1, none⟩) FRV2 j1 (nv _ (Nat.le_refl _))
                    have i3 := fr_cell (a := ⟨b3, 0, none⟩) FRV2 j3 (nv _ (by show b3 ≤ _; omega))
                    have i4 := fr_cell (a := ⟨b4, 0, none⟩) FRV2 j4 (nv _ (by show b4 ≤ _; omega))
                    have ia := fr_cell (a := ⟨ha, k, none⟩) FRV2 ja (nv _ (by show ha ≤ _; omega))
                    have ib := fr_cell (a := ⟨hb, k, none⟩) FRV2 jb (nv _ (by show hb ≤ _; omega))
                    have hsz2 : w1.heap.size ≤ w2.heap.size := FRV2.size
                    have if2 := fun j => (FRV2.frozens W.heap.size j (by omega) (nv _ (Nat.le_refl _))).trans (jf j)
                    have HFV2 := bk FRV2
                    clear hown hg hat FRV2 nv
                    refine hK _ _ (fun _ => ⟨i0, i1, i3, i4, ia, ib⟩) ?_
                    clear hK K
                    try simp only [Act.put, List.setIfInBounds_toArray, List.set_cons_zero, List.set_cons_succ]
                    refine GoG.alone 17 rfl (by kernel_rfl) (fun K hK => ?_)
                    go_simp
                    refine hK _ _ (fun h => absurd (show true = false from h) (by decide)) ?_
                    clear hK K
                    try simp only [Act.put, List.setIfInBounds_toArray, List.set_cons_zero, List.set_cons_succ]
                    refine GoG.alone 18 rfl (by kernel_rfl) (fun K hK => ?_)
                    go_simp
                    refine hK _ _ (fun h => absurd (show true = false from h) (by decide)) ?_
                    clear hK K
                    try simp only [Act.put, List.setIfInBounds_toArray, List.set_cons_zero, List.set_cons_succ]
                    refine GoG.alone 19 rfl (by kernel_rfl) (fun K hK => ?_)
                    go_simp
                    refine hK _ _ (fun h => absurd (show true = false from h) (by decide)) ?_
                    clear hK K
                    try simp only [Act.put, List.setIfInBounds_toArray, List.set_cons_zero, List.set_cons_succ]
                    refine GoG.done (by kernel_rfl) ?_
                    refine NoPanic.normal ?_
                    go_wp2_with fail
                    go_roundw
                    case measure => simp [intOf]; omega
                    case rel => exact HREL.out HI1.out HO2.out HAT1.out HAT2.out HFV1.out HFV2.out
                · go_simp
                  refine hK _ _ (fun _ => ⟨cell_below (by repeat (first | exact Below.refl _ _ | exact alloc1 _ _ | refine Below.drew ?_ | refine Below.alloc ?_ (by simp; try omega) _ | refine Below.setCell ?_ (by simp; try omega) _)) kl0, cell_below (by repeat (first | exact Below.refl _ _ | exact alloc1 _ _ | refine Below.drew ?_ | refine Below.alloc ?_ (by simp; try omega) _ | refine Below.setCell ?_ (by simp; try omega) _)) kl1, cell_below (by repeat (first | exact Below.refl _ _ | exact alloc1 _ _ | refine Below.drew ?_ | refine Below.alloc ?_ (by simp; try omega) _ | refine Below.setCell ?_ (by simp; try omega) _)) k3, cell_below (by repeat (first | exact Below.refl _ _ | exact alloc1 _ _ | refine Below.drew ?_ | refine Below.alloc ?_ (by simp; try omega) _ | refine Below.setCell ?_ (by simp; try omega) _)) k4, cell_below (by repeat (first | exact Below.refl _ _ | exact alloc1 _ _ | refine Below.drew ?_ | refine Below.alloc ?_ (by simp; try omega) _ | refine Below.setCell ?_ (by simp; try omega) _)) ka, cell_below (by repeat (first | exact Below.refl _ _ | exact alloc1 _ _ | refine Below.drew ?_ | refine Below.alloc ?_ (by simp; try omega) _ | refine Below.setCell ?_ (by simp; try omega) _)) kb⟩) ?_
                  clear hK K
                  try simp only [Act.put, List.setIfInBounds_toArray, List.set_cons_zero, List.set_cons_succ]
                  refine GoG.alone 6 rfl (by kernel_rfl) (fun K hK => ?_)
                  go_simp
                  refine hK _ _ (fun _ => ⟨cell_below (by repeat (first | exact Below.refl _ _ | exact alloc1 _ _ | refine Below.drew ?_ | refine Below.alloc ?_ (by simp; try omega) _ | refine Below.setCell ?_ (by simp; try omega) _)) kl0, cell_below (by repeat (first | exact Below.refl _ _ | exact alloc1 _ _ | refine Below.drew ?_ | refine Below.alloc ?_ (by simp; try omega) _ | refine Below.setCell ?_ (by simp; try omega) _)) kl1, cell_below (by repeat (first | exact Below.refl _ _ | exact alloc1 _ _ | refine Below.drew ?_ | refine Below.alloc ?_ (by simp; try omega) _ | refine Below.setCell ?_ (by simp; try omega) _)) k3, cell_below (by repeat (first | exact Below.refl _ _ | exact alloc1 _ _ | refine Below.drew ?_ | refine Below.alloc ?_ (by simp; try omega) _ | refine Below.setCell ?_ (by simp; try omega) _)) k4, cell_below (by repeat (first | exact Below.refl _ _ | exact alloc1 _ _ | refine Below.drew ?_ | refine Below.alloc ?_ (by simp; try omega) _ | refine Below.setCell ?_ (by simp; try omega) _)) ka, cell_below (by repeat (first | exact Below.refl _ _ | exact alloc1 _ _ | refine Below.drew ?_ | refine Below.alloc ?_ (by simp; try omega) _ | refine Below.setCell ?_ (by simp; try omega) _)) kb⟩) ?_
                  clear hK K
                  try simp only [Act.put, List.setIfInBounds_toArray, List.set_cons_zero, List.set_cons_succ]
                  refine GoG.alone 7 rfl (by kernel_rfl) (fun K hK => ?_)
                  refine OwS.wp_appends (hdr m) (hdr_one m) (by rfl) _ _ 31 57 (.slice none 0 0) 24 (by rfl) Try.underlying31 infoR rfl (by decide) W5.heap.size (fun _ => True) _ (.slice Ai k cai) (gi.take k) [gi[k]] (some ⟨_, 0, none⟩) 1 1 (by rfl) (by rfl) (HOI.out.below (by repeat (first | exact Below.refl _ _ | exact alloc1 _ _ | refine Below.drew ?_ | refine Below.alloc ?_ (by simp; try omega) _ | refine Below.setCell ?_ (by simp; try omega) _))) (Sl.of_bx (b := _) (t := 57) [gi[k]] 1 (by exact Bx.new' (by simp)) rfl trivial (by simp) (by simp) rfl) (by first | omega | (simp; done) | (simp; omega)) (by first | omega | (simp; done) | (simp; omega)) ?_
                  intro v1 w1 hown hg hat
                  have hsz1 : Wk.heap.size ≤ w1.heap.size := by have := hg.size; simp at this; omega
                  have FRV1 : Fr (fun b => (Value.slice Ai k cai).ownBlock = some b) Wk w1 := Fr.grown (by repeat (first | exact Fr.refl _ _ | refine Fr.drew ?_ | refine Fr.alloc ?_ _)) hg (fun q e _ => e)
                  have HAT1 : Bk (v1.ownBlock = (Value.slice Ai k cai).ownBlock ∨ ∃ b, v1.ownBlock = some b ∧ Wk.heap.size ≤ b) := bk (hat.imp id (fun h => ⟨_, h, (by first | omega | (simp; done) | (simp; omega))⟩))
                  have HOO1 := bk (HOO.out.fr FRV1 (fun b hb e => HDIF.out b e hb))
                  have HGB := bk hg.block
                  obtain ⟨Ai1, ci1, hv1, _⟩ := hown.any
                  rw [show (gi.take k ++ [gi[k]]).length = k + 1 by rw [List.length_append, hli]; rfl] at hv1
                  subst hv1
                  have HI1 := bk hown
                  have nv : ∀ y, y ≤ W.heap.size → ¬ (Value.slice Ai k cai).ownBlock = some y := fun y hy e => by have := HVI.out y e; omega
                  have j0 := fr_cell (a := ⟨W.heap.size, 0, none⟩) FRV1 kl0 (nv _ (Nat.le_refl _))
                  have j1 := fr_cell (a := ⟨W.heap.size, 1, none⟩) FRV1 kl1 (nv _ (Nat.le_refl _))
                  have j3 := fr_cell (a := ⟨b3, 0, none⟩) FRV1 k3 (nv _ (by show b3 ≤ _; omega))
                  have j4 := fr_cell (a := ⟨b4, 0, none⟩) FRV1 k4 (nv _ (by show b4 ≤ _; omega))
                  have ja := fr_cell (a := ⟨ha, k, none⟩) FRV1 ka (nv _ (by show ha ≤ _; omega))
                  have jb := fr_cell (a := ⟨hb, k, none⟩) FRV1 kb (nv _ (by show hb ≤ _; omega))
                  have jf := fun j => (FRV1.frozens W.heap.size j lb (nv _ (Nat.le_refl _))).trans (kf0 j)
                  have HFV1 := bk FRV1
                  clear hown hg hat FRV1 nv
                  refine hK _ _ (fun _ => ⟨j0, j1, j3, j4, ja, jb⟩) ?_
                  clear hK K
                  try simp only [Act.put, List.setIfInBounds_toArray, List.set_cons_zero, List.set_cons_succ]
                  refine GoG.take 16 rfl (by kernel_rfl) (fun c a w h => h) ⟨j0, j1, j3, j4, ja, jb⟩ ?_ (by rfl) ?_ ?_
                  rotate_left 1
                  · intro w hSw
                    obtain ⟨s1, s2, s3, s4, s5, s6⟩ := hSw
                    go_simp
                    with_reducible rfl
                  try simp only [Act.put, List.setIfInBounds_toArray, List.set_cons_zero, List.set_cons_succ]
                  refine GoG.alone 15 rfl (by kernel_rfl) (fun K hK => ?_)
                  refine OwS.wp_appends (hdr m) (hdr_one m) (by rfl) _ _ 31 57 (.slice none 0 0) 24 (by rfl) Try.underlying31 infoR rfl (by decide) W5.heap.size (fun _ => True) _ (.slice Ao k cao) (go.take k) [go[k]] (some ⟨_, 0, none⟩) 1 1 (by rfl) (by rfl) (HOO1.out.below (by repeat (first | exact Below.refl _ _ | exact alloc1 _ _ | refine Below.drew ?_ | refine Below.alloc ?_ (by simp; try omega) _ | refine Below.setCell ?_ (by simp; try omega) _))) (Sl.of_bx (b := _) (t := 57) [go[k]] 1 (by exact bx_old ((Bx.new' (by simp)).alloc _) HGB.out (by first | omega | (simp; done) | (simp; omega)) (fun e => by have := HVI.out _ e.symm; first | omega | (simp at this; done) | (simp at this; omega))) rfl trivial (by simp) (by simp) rfl) (by first | omega | (simp; done) | (simp; omega)) (by first | omega | (simp; done) | (simp; omega)) ?_
                  intro v2 w2 hown hg hat
                  have FRV2 : Fr (fun b => (Value.slice Ao k cao).ownBlock = some b) w1 w2 := Fr.grown (by repeat (first | exact Fr.refl _ _ | refine Fr.drew ?_ | refine Fr.alloc ?_ _)) hg (fun q e _ => e)
                  have HAT2 : Bk (v2.ownBlock = (Value.slice Ao k cao).ownBlock ∨ ∃ b, v2.ownBlock = some b ∧ w1.heap.size ≤ b) := bk (hat.imp id (fun h => ⟨_, h, (by first | omega | (simp; done) | (simp; omega))⟩))
                  obtain ⟨Ao1, co1, hv2, _⟩ := hown.any
                  rw [show (go.take k ++ [go[k]]).length = k + 1 by rw [List.length_append, hlo]; rfl] at hv2
                  subst hv2
                  have HO2 := bk hown
                  have nv : ∀ y, y ≤ W.heap.size → ¬ (Value.slice Ao k cao).ownBlock = some y := fun y hy e => by have := HVO.out y e; omega
                  have i0 := fr_cell (a := ⟨W.heap.size, 0, none⟩) FRV2 j0 (nv _ (Nat.le_refl _))
                  have i1 := fr_cell (a := ⟨W.heap.size, 1, none⟩) FRV2 j1 (nv _ (Nat.le_refl _))
                  have i3 := fr_cell (a := ⟨b3, 0, none⟩) FRV2 j3 (nv _ (by show b3 ≤ _; omega))
                  have i4 := fr_cell (a := ⟨b4, 0, none⟩) FRV2 j4 (nv _ (by show b4 ≤ _; omega))
                  have ia := fr_cell (a := ⟨ha, k, none⟩) FRV2 ja (nv _ (by show ha ≤ _; omega))
                  have ib := fr_cell (a := ⟨hb, k, none⟩) FRV2 jb (nv _ (by show hb ≤ _; omega))
                  have hsz2 : w1.heap.size ≤ w2.heap.size := FRV2.size
                  have if2 := fun j => (FRV2.frozens W.heap.size j (by omega) (nv _ (Nat.le_refl _))).trans (jf j)
                  have HFV2 := bk FRV2
                  clear hown hg hat FRV2 nv
                  refine hK _ _ (fun _ => ⟨i0, i1, i3, i4, ia, ib⟩) ?_
                  clear hK K
                  try simp only [Act.put, List.setIfInBounds_toArray, List.set_cons_zero, List.set_cons_succ]
                  refine GoG.alone 17 rfl (by kernel_rfl) (fun K hK => ?_)
                  go_simp
                  refine hK _ _ (fun h => absurd (show true = false from h) (by decide)) ?_
                  clear hK K
                  try simp only [Act.put, List.setIfInBounds_toArray, List.set_cons_zero, List.set_cons_succ]
                  refine GoG.alone 18 rfl (by kernel_rfl) (fun K hK => ?_)
                  go_simp
                  refine hK _ _ (fun h => absurd (show true = false from h) (by decide)) ?_
                  clear hK K
                  try simp only [Act.put, List.setIfInBounds_toArray, List.set_cons_zero, List.set_cons_succ]
                  refine GoG.alone 19 rfl (by kernel_rfl) (fun K hK => ?_)
                  go_simp
                  refine hK _ _ (fun h => absurd (show true = false from h) (by decide)) ?_
                  clear hK K
                  try simp only [Act.put, List.setIfInBounds_toArray, List.set_cons_zero, List.set_cons_succ]
                  refine GoG.done (by kernel_rfl) ?_
                  refine NoPanic.normal ?_
                  go_wp2_with fail
                  go_roundw
                  case measure => simp [intOf]; omega
                  case rel => exact HREL.out HI1.out HO2.out HAT1.out HAT2.out HFV1.out HFV2.out
                -- R26>
                -- done2]
              · have hkk : k = bs.length := by omega
                subst hkk
                have hgi : gi.take bs.length = gi := List.take_of_length_le (by omega)
                have hgo : go.take bs.length = go := List.take_of_length_le (by omega)
                rw [hgi] at hoi
                rw [hgo] at hoo
                obtain ⟨Ai, cai, rfl, _⟩ := hoi.any
                obtain ⟨Ao, cao, rfl, _⟩ := hoo.any
                rw [e1] at hoi xl hdif
                rw [e2] at hoo xl hdif
                have sz5 : W5.heap.size ≤ Wk.heap.size := hbk.size
                have lr : w.heap.size + 1 < Wk.heap.size := by have := HZ.out; omega
                have xr := X15.out.keep (hbk.block _ (by have := HZ.out; omega))
                have XR := bk xr
                have cr := xr.cell
                have frz := xr.frozen
                have kl0 := xl.cell 0
                have kl1 := xl.cell 1
                have HOI := bk hoi; have HOO := bk hoo; have HDIF := bk hdif; have HBK := bk hbk; have HXL := bk xl
                have FS : Bk (Fr (fun b => b = w.heap.size + 1) Wk ((Wk.setCell ⟨w.heap.size + 1, 0, none⟩ (.slice Ai bs.length cai)).setCell ⟨w.heap.size + 1, 1, none⟩ (.slice Ao bs.length cao))) := bk (((Fr.refl (fun b => b = w.heap.size + 1) Wk).setCell (p := ⟨w.heap.size + 1, 0, none⟩) (fun _ => rfl) _).setCell (p := ⟨w.heap.size + 1, 1, none⟩) (fun _ => rfl) _)
                have XS := bk ((xr.set 0 (.slice Ai bs.length cai)).set 1 (.slice Ao bs.length cao))
                have HALL : Bk (Below w.heap.size w ((Wk.setCell ⟨w.heap.size + 1, 0, none⟩ (.slice Ai bs.length cai)).setCell ⟨w.heap.size + 1, 1, none⟩ (.slice Ao bs.length cao))) := bk (by
                  have h1 : Below w.heap.size w W5 := HBW2.out.trans (F25.out.to_below (fun x h => by
                    have hsw := hs
                    have := HBC.out.size
                    rcases h with h | h | h
                    · have := HSZ.out x (.inl h); omega
                    · have := HSZ.out x (.inr h); omega
                    · omega) HBW2.out.size)
                  have h2 : Below w.heap.size W5 Wk := ⟨HBK.out.os, HBK.out.tape, HBK.out.output, HBK.out.size, fun k hk => HBK.out.block k (by omega)⟩
                  exact ((h1.trans h2).setCell (p := ⟨w.heap.size + 1, 0, none⟩) (by show w.heap.size ≤ w.heap.size + 1; omega) _).setCell (p := ⟨w.heap.size + 1, 1, none⟩) (by show w.heap.size ≤ w.heap.size + 1; omega) _)
                have MAT : ∀ (gs : List Nat) (R : Rows) (v : Value) (W' : World), (∀ b ∈ gs, b ∈ gi ∨ b ∈ go) → gs.Nodup → Cel W5 gs R → Wide bs.length m R → OwS (hdr m) 57 Wk W5.heap.size gs v →
                    Calm 0 ((Wk.setCell ⟨w.heap.size + 1, 0, none⟩ (.slice Ai bs.length cai)).setCell ⟨w.heap.size + 1, 1, none⟩ (.slice Ao bs.length cao)) W' → Sl (.slice RB) W' (fun c => w.heap.size ≤ c) R v := fun gs R v W' h1 h2 h3 h4 h5 hc => by
                  have hz := HZ.out
                  have hB2 := HBW2.out.size
                  have hcs := HBC.out.size
                  have q1 : ∀ b ∈ gs, wc.heap.size ≤ b ∧ b < wr.heap.size := fun b hb => HSZ.out b (h1 b hb)
                  have c1 : Cel Wk gs R := h3.keep (fun b hb hlt => HBK.out.block b (by have := q1 b hb; omega))
                  have c2 := c1.keep (fun b hb hlt => FS.out.block b hlt (by show ¬ b = _; have := q1 b hb; omega))
                  have o1 := h5.fr FS.out (fun b hb => by show ¬ b = _; have := h5.lt b hb; omega)
                  have M : Mat W' wc.heap.size m R v gs := ⟨(o1.calm hc).rebase (fun k hk => by have := h5.lt k hk; omega), ⟨c2.1, fun i a b => (c2.2 i a b).calm hc⟩, h2, fun b hb => ⟨(q1 b hb).1, fun e => by have := h5.lt b e; have := q1 b hb; omega⟩, h4.2⟩
                  exact (M.sl (by omega) (by rw [h4.1]; omega)).mono (fun b hb _ => by omega)
                have HMAT := bk MAT
                clear MAT
                clear hoi hoo hdif hbk xl xr
                go_wp2_with fail
                refine leaves_marks ds _ NDW.out (fun D hD => ?_) (fun W' hb hc => ?_)
                · have h1 := HDS.out D hD
                  have h2 := (Array.getElem?_eq_some_iff.1 h1.2).1
                  have hz := HZ.out
                  have hB2 := HBW2.out.size
                  rw [FS.out.block D (by omega) (by show ¬ D = _; omega), HBK.out.block D h2, B5.out.block D h2]
                  exact h1.2
                · have hr0 := ((XS.out).calm hc).cell 0
                  have hr1 := ((XS.out).calm hc).cell 1
                  simp at hr0 hr1
                  refine ⟨.agg #[.slice Ai bs.length cai, .slice Ao bs.length cao], by simp [results, Try.results27, go_sem, hr0, hr1], ⟨_, _, rfl, ?_, ?_⟩, hb _ _ HALL.out (fun D hD => by have := HDS.out D hD; have := HBW2.out.size; omega)⟩
                  · have e := (HL2.out rfl).1
                    rw [show (Fn.live ⟨(m : Int), bs⟩).In = I by simpa [Fn.live] using e]
                    exact HMAT.out gi I _ W' (fun b hb => .inl hb) (List.nodup_append.1 ND.out).1 CI5.out HWI.out HOI.out hc
                  · have e := (HL2.out rfl).2
                    rw [show (Fn.live ⟨(m : Int), bs⟩).Out = O by simpa [Fn.live] using e]
                    exact HMAT.out go O _ W' (fun b hb => .inr hb) (List.nodup_append.1 ND.out).2.1 CO5.out HWO.out HOO.out hc
          | true =>
            have n07 : w.heap.size ≠ b7 := by omega
            go_wp2_with fail
            refine name_world_calls (fun W4 hW4 => ?_)
            have hz4 : W4.heap.size = W.heap.size := by subst hW4; simp
            have HF4 : Bk (Fr (fun x => x = b7) W W4) := by subst hW4; exact bk ((Fr.refl (fun x => x = b7) W).setCell (p := ⟨b7, 0, none⟩) (fun _ => rfl) _)
            have X74 : Bk (Bx W4 b7 #[.bool false] 4) := by subst hW4; exact bk (X7W.out.set 0 (.bool false))
            clear hW4
            refine (backwardB _ _ _ _).mono ?_
            rintro e W5 ⟨rfl, rfl⟩
            go_wp2_with fail
            refine name_world (fun W3 hW3 => ?_)
            have hz3 : W3.heap.size = W.heap.size + 1 := by subst hW3; simp [hz4]
            have HF43 : Bk (Fr (fun x => x = b7) W W3) := by subst hW3; exact bk (HF4.out.alloc _)
            have X73 : Bk (Bx W3 b7 #[.bool false] 4) := by subst hW3; exact bk (X74.out.alloc _)
            have XL3 : Bk (Bx W3 W.heap.size #[.slice A bs.length c] 22) := by subst hW3; exact bk (Bx.new' hz4.symm)
            clear hW3
            have NI7 : Bk (∀ x, x ∈ gi ∨ x ∈ go → x ≠ b7) := bk (fun x hx e => by have := HSZ.out x hx; omega)
            have CI3 : Bk (Cel W3 gi I) := bk (CIW.out.keep (fun b hb hlt => HF43.out.block b hlt (NI7.out b (.inl hb))))
            have CO3 : Bk (Cel W3 go O) := bk (COW.out.keep (fun b hb hlt => HF43.out.block b hlt (NI7.out b (.inr hb))))
            have HF23 : Bk (Fr (fun x => x ∈ gi ∨ x ∈ go ∨ x = W1.heap.size + 1) W2 W3) := bk (FRW.out.step HF43.out (fun i hi e => by right; right; subst e; omega))
            have HNB : Bk (∀ x, x < wc.heap.size ∨ x = W1.heap.size → ¬ (x ∈ gi ∨ x ∈ go ∨ x = b7)) := bk (fun x hx h => by
              have hsw := hs
              rcases h with h | h | h
              · have := HSZ.out x (.inl h); omega
              · have := HSZ.out x (.inr h); omega
              · omega)
            have HO3 : Bk (Below w.heap.size w W3) := bk (HBW2.out.trans (HF23.out.to_below (fun x h => by
              have hsw := hs
              rcases h with h | h | h
              · have := HSZ.out x (.inl h); omega
              · have := HSZ.out x (.inr h); omega
              · omega) HBW2.out.size))
            have hw3 : w.heap.size ≤ W3.heap.size := HO3.out.size
            refine backLoop (t := 54) (N := bs.length) (bb := W.heap.size) (cs := fun i => #[.slice (qs i).1 bs[i.1].ins.length (qs i).2, .int .i64 bs[i.1].fin, .int .i64 bs[i.1].v, .int .i64 bs[i.1].to, .int .i64 bs[i.1].els]) (fun x => x ∈ gi ∨ x ∈ go ∨ x = b7)
              ?hS ?hg (enters_of Try.func63 (by kernel_rfl) rfl)
              (backB_stops bs (fun i => .slice (qs i).1 bs[i.1].ins.length (qs i).2) A c W.heap.size _ W3 (by omega) XL3.out ?hT hc ?rows) rfl
              (fun (s : LvS) Wx => Wide bs.length m s.I ∧ Wide bs.length m s.O ∧ Cel Wx gi s.I ∧ Cel Wx go s.O ∧ Bx Wx b7 #[.bool s.more] 4)
              (fun s W W' h hc => ⟨h.1, h.2.1, ⟨h.2.2.1.1, fun i a b => (h.2.2.1.2 i a b).calm hc⟩, ⟨h.2.2.2.1.1, fun i a b => (h.2.2.2.1.2 i a b).calm hc⟩, h.2.2.2.2.calm hc⟩)
              (fun s i => stepB bs[i.1] i.1 s) ⟨I, O, false⟩ ⟨HWI.out, HWO.out, CI3.out, CO3.out, X73.out⟩
              (fun i B => [(47, .int .i64 (i.1 : Int)), (48, .agg #[.slice (qs i).1 bs[i.1].ins.length (qs i).2, .int .i64 bs[i.1].fin, .int .i64 bs[i.1].v, .int .i64 bs[i.1].to, .int .i64 bs[i.1].els]), (8, .int .i64 (i.1 : Int)), (9, .pointer (some ⟨B, 0, none⟩))]) ?assign ?body ?done
            case hg => simp [Act.eval]
            case hS =>
              rintro x (h | h | h)
              · have := HSZ.out x (.inl h); omega
              · have := HSZ.out x (.inr h); omega
              · omega
            case hT =>
              rintro ((h | h | h) | h)
              · have := HSZ.out _ (.inl h); omega
              · have := HSZ.out _ (.inr h); omega
              · omega
              · omega
            case rows =>
              intro i
              obtain ⟨hv, g, o, hA, hg, hr⟩ := HVS.out i
              refine ⟨g, o, hA, by omega, ?_, hr.keep (HO3.out.block g hg)⟩
              rintro (h | h)
              · exact HNB.out g (.inl (by omega)) h
              · omega
            case assign =>
              intro l i W K hK
              simp only [List.foldl_cons, List.foldl_nil, List.setIfInBounds_toArray, List.set_cons_succ, List.set_cons_zero] at hK
              gi_wp2
              exact hK
            case body =>
              -- [done
              rintro l ⟨I', O', mo'⟩ i Wb B ⟨hwI, hwO, cI, cO, x7⟩ hfr hB hbx
              simp only [List.foldl_cons, List.foldl_nil, List.setIfInBounds_toArray, List.set_cons_succ, List.set_cons_zero]
              dsimp only at hwI hwO cI cO x7 ⊢
              have hi := i.2
              have hgil : i.1 < gi.length := by omega
              have hgol : i.1 < go.length := by omega
              have hIl : I'.length = bs.length := hwI.1
              have hOl : O'.length = bs.length := hwO.1
              have hbW := HO3.out
              have hfr0 : Fr (fun x => x ∈ gi ∨ x ∈ go ∨ x = b7 ∨ x = W1.heap.size + 1) W2 Wb := (HF23.out.mono (fun _ _ h => by rcases h with h | h | h <;> simp [h])).step hfr (fun _ _ h => by rcases h with h | h | h <;> simp [h])
              have HN2 : ∀ x, x < wc.heap.size ∨ x = W1.heap.size → ¬ (x ∈ gi ∨ x ∈ go ∨ x = b7 ∨ x = W1.heap.size + 1) := fun x hx h => by
                rcases h with h | h | h | h
                · exact HNB.out x hx (.inl h)
                · exact HNB.out x hx (.inr (.inl h))
                · exact HNB.out x hx (.inr (.inr h))
                · omega
              -- what is read
              have d6 : Wb.cell? ⟨W1.heap.size, 0, none⟩ = some (.slice An bs.length cn) := (X6.out.fr hfr0 (HN2 _ (.inr rfl))).cell 0
              have d3 : Wb.cell? ⟨b3, 0, none⟩ = some (.slice (some ⟨ha, 0, none⟩) bs.length bs.length) := (X32.out.fr hfr0 (HN2 _ (.inl L3))).cell 0
              have d4 : Wb.cell? ⟨b4, 0, none⟩ = some (.slice (some ⟨hb, 0, none⟩) bs.length bs.length) := (X42.out.fr hfr0 (HN2 _ (.inl L4))).cell 0
              have xaB := XA3.out.fr hfr0 (HN2 _ (.inl LA))
              have xbB := XB3.out.fr hfr0 (HN2 _ (.inl LB))
              have dha : ∀ j (hj : j < gi.length), Wb.cell? ⟨ha, j, none⟩ = some (.slice (some ⟨gi[j], 0, none⟩) m m) := fun j hj => by rw [xaB.cell]; simp [hj, hdr]
              have dhb : ∀ j (hj : j < go.length), Wb.cell? ⟨hb, j, none⟩ = some (.slice (some ⟨go[j], 0, none⟩) m m) := fun j hj => by rw [xbB.cell]; simp [hj, hdr]
              obtain ⟨gn, on, Bn, mn, hAn, hokn, hgn, hus, hun, dn⟩ := HVN2.out.row i.1 (by simp)
              subst hAn
              have hmap : (bs.map nextB)[i.1]'(by simp) = nextB bs[i.1] := by simp
              rw [hmap] at hus hun dn
              have hnn2 : ∀ x, wr.heap.size ≤ x ∧ x < W1.heap.size → ¬ (x ∈ gi ∨ x ∈ go ∨ x = b7 ∨ x = W1.heap.size + 1) := fun x hx h => by
                rcases h with h | h | h | h
                · have := HSZ.out x (.inl h); omega
                · have := HSZ.out x (.inr h); omega
                · omega
                · omega
              have dnB := fr_cell hfr0 dn (hnn2 _ hokn)
              have husB := hus.fr hfr0 (fun b h _ => hnn2 b h)
              have hul : (nextB bs[i.1]).length ≤ 2 := by unfold nextB; split <;> (try split) <;> simp
              have hux := HNXT.out _ (List.getElem_mem hi)
              have hbj := HBLK.out _ (List.getElem_mem hi)
              have hgoS := HSZ.out _ (.inr (List.getElem_mem hgol))
              have hgiS := HSZ.out _ (.inl (List.getElem_mem hgil))
              have hndg := ND.out
              rw [List.nodup_append] at hndg
              obtain ⟨nd1, nd2, nd3⟩ := hndg
              have CI1 := bk cI; have CO1 := bk cO; have X71 := bk x7; have HUS := bk husB; have HUX := bk hux; have HBJ := bk hbj; have DHA := bk dha; have DHB := bk dhb; have HBX1 := bk hbx; have WI1 := bk hwI; have WO1 := bk hwO; have ND1 := bk nd1; have ND2 := bk nd2; have ND3 := bk nd3; have HFR1 := bk hfr; have HGIS := bk hgiS
              have hbs := hfr.size
              have lb3 : b3 < Wb.heap.size := by omega
              have lb4 : b4 < Wb.heap.size := by omega
              have lha : ha < Wb.heap.size := by omega
              have lhb : hb < Wb.heap.size := by omega
              have dhbi := dhb i.1 hgol
              have qr : Bk ((qs i).1 = (qs i).1) := bk rfl
              clear hwI hwO cI cO x7 hfr hbx hfr0 HN2 xaB xbB dha dhb hus dn hnn2 husB hux hbj hmap hun nd1 nd2 nd3 hgiS
              generalize hxg : bs[i.1] = x at *
              have HXG := bk hxg
              clear hxg
              generalize hus' : nextB x = us at *
              have HUS' := bk hus'
              clear hus'
              gi_wp2_with fail
              gi_loopw [54] (fun j Wj => ∃ k : Nat, k ≤ us.length ∧ j = .int .i64 k ∧ Cel Wj go (O'.set i.1 (foldOr I' (us.take k) (O'.getD i.1 []))) ∧ Fr (fun x => x = go[i.1]) Wb Wj) (fun j _ => us.length - (intOf j).toNat)
              case atStart =>
                refine ⟨0, Nat.zero_le _, rfl, ?_, Fr.refl _ _⟩
                rw [getD_get O' i.1 (by omega)]
                show Cel Wb go (O'.set i.1 O'[i.1])
                rw [List.set_getElem_self]
                exact CO1.out
              case round =>
                obtain ⟨Wj, rfl⟩ : ∃ W', W' = wr := ⟨_, rfl⟩
                obtain ⟨k, hk, rfl, cj, fj⟩ := hrel
                have CJ := bk cj; have FJ := bk fj
                have jb3 := fr_cell (a := ⟨b3, 0, none⟩) fj d3 (by show ¬ b3 = _; omega)
                have jb4 := fr_cell (a := ⟨b4, 0, none⟩) fj d4 (by show ¬ b4 = _; omega)
                have jhb := fr_cell (a := ⟨hb, i.1, none⟩) fj dhbi (by show ¬ hb = _; omega)
                have hsj := fj.size
                clear cj fj
                by_cases hlt : k < us.length
                · skip
                  obtain ⟨gu, ou, hBu, hgu, hgu2, cu⟩ := HUS.out.one k hlt
                  subst hBu
                  obtain ⟨u0, u1⟩ := HUX.out _ (List.getElem_mem hlt)
                  obtain ⟨un, hun⟩ := Int.eq_ofNat_of_zero_le u0
                  have hun2 : un < gi.length := by omega
                  have ju := fr_cell (a := ⟨gu, ou + k, none⟩) FJ.out cu (by show ¬ gu = _; omega)
                  rw [hun] at ju
                  have jha := fr_cell (a := ⟨ha, un, none⟩) FJ.out (DHA.out un hun2) (by show ¬ ha = _; omega)
                  have hunN : (un : Int) < (bs.length : Int) := by omega
                  clear cu
                  have hgne : ∀ b ∈ gi, ¬ b = go[i.1] := fun b hb => ND3.out b hb _ (List.getElem_mem hgol)
                  have HCJI := bk (CI1.out.frS FJ.out hgne)
                  have HGNE := bk hgne
                  have hOi : (O'.getD i.1 []).length = m := WO1.out.getD i.1 hi
                  have hcl : (foldOr I' (us.take k) (O'.getD i.1 [])).length = m := foldOr_length WI1.out _ (fun u hu => HUX.out u (List.mem_of_mem_take hu)) _ hOi
                  have hrl : (I'[un]'(by omega)).length = m := WI1.out.get un _
                  have hxj := CJ.out.2 i.1 (by simp; omega) hgol
                  rw [List.getElem_set_self] at hxj
                  have HXJ := bk hxj
                  have HFT := bk (foldOr_take I' us (O'.getD i.1 []) k hlt)
                  clear hgne hxj
                  gi_wp2_with fail
                  refine wpIn_region_held 8 (fun w' => w'.cell? ⟨b3, 0, none⟩ = some (.slice (some ⟨ha, 0, none⟩) bs.length bs.length) ∧ w'.cell? ⟨b4, 0, none⟩ = some (.slice (some ⟨hb, 0, none⟩) bs.length bs.length) ∧
                    w'.cell? ⟨ha, un, none⟩ = some (.slice (some ⟨gi[un], 0, none⟩) m m) ∧ w'.cell? ⟨hb, i.1, none⟩ = some (.slice (some ⟨go[i.1], 0, none⟩) m m)) (by kernel_rfl) (by kernel_rfl) (fun c a w h => h) (by rintro ⟨a, w, h⟩; exact h) ⟨jb3, jb4, jha, jhb⟩ ?_
                  simp only [List.take_succ_cons, List.take_zero, List.drop_succ_cons, List.drop_zero]
                  iterate 8
                    refine wpHeld_step ?_ (by rfl) ?_ ?_
                    rotate_left 1
                    · intro w hSw
                      obtain ⟨s1, s2, s3, s4⟩ := hSw
                      go_simp
                      with_reducible rfl
                    simp only [Act.put, List.setIfInBounds_toArray, List.set_cons_zero, List.set_cons_succ]
                  refine wpHeld_nil ?_
                  refine wpSeqH_step (fun K hK => ?_)
                  go_simp
                  refine (addL go[i.1] m (foldOr I' (us.take k) (O'.getD i.1 [])) I'[un] _ (fun c => c = gi[un]) Wj.drew HXJ.out.drew hcl ((HCJI.out.sl un hun2 (by omega) m hrl hm).drew) hrl (fun c hc => by subst hc; exact HGNE.out _ (List.getElem_mem hun2)) hm).mono ?_
                  rintro e W9 ⟨rfl, hb9, hf9⟩
                  have F9 : Bk (Fr (fun x => x = go[i.1]) Wj W9) := bk ⟨hf9.os, hf9.tape, hf9.output, hf9.size, hf9.block⟩
                  have B9 := bk hb9
                  clear hb9 hf9
                  refine hK _ _ ⟨fr_cell (a := ⟨b3, 0, none⟩) F9.out jb3 (by show ¬ b3 = _; omega), fr_cell (a := ⟨b4, 0, none⟩) F9.out jb4 (by show ¬ b4 = _; omega), fr_cell (a := ⟨ha, un, none⟩) F9.out jha (by show ¬ ha = _; omega), fr_cell (a := ⟨hb, i.1, none⟩) F9.out jhb (by show ¬ hb = _; omega)⟩ ?_
                  clear hK K
                  refine wpSeqH_nil ?_
                  gi_wp2_with fail
                  go_roundw
                  case measure => simp [intOf]; omega
                  case rel =>
                    refine ⟨k + 1, by omega, by go_num, ?_, FJ.out.trans F9.out⟩
                    have h := CJ.out.upd ND2.out i.1 hgol F9.out B9.out
                    rw [List.set_set] at h
                    rw [HFT.out, hun, show (un : Int).toNat = un from rfl, getD_get I' un (by omega)]
                    exact h
                · have hkk : k = us.length := by omega
                  subst hkk
                  rw [List.take_length] at CJ
                  have hOi : (O'.getD i.1 []).length = m := WO1.out.getD i.1 hi
                  have hrl : (foldOr I' us (O'.getD i.1 [])).length = m := foldOr_length WI1.out _ (fun u hu => HUX.out u hu) _ hOi
                  have hgne : ∀ b ∈ gi, ¬ b = go[i.1] := fun b hb => ND3.out b hb _ (List.getElem_mem hgol)
                  have HGNE := bk hgne
                  have HCJI := bk (CI1.out.frS FJ.out hgne)
                  have nBgo : ¬ B = go[i.1] := by omega
                  have n7go : ¬ b7 = go[i.1] := by omega
                  have jha := fr_cell (a := ⟨ha, i.1, none⟩) FJ.out (DHA.out i.1 hgil) (by show ¬ ha = _; omega)
                  have hbxj := HBX1.out.fr FJ.out nBgo
                  have x7j := X71.out.fr FJ.out n7go
                  have z0 : Wj.cell? ⟨B, 0, none⟩ = some (.slice (qs i).1 x.ins.length (qs i).2) := hbxj.cell 0
                  have z1 : Wj.cell? ⟨B, 1, none⟩ = some (.int .i64 x.fin) := hbxj.cell 1
                  have z2 : Wj.cell? ⟨B, 2, none⟩ = some (.int .i64 x.v) := hbxj.cell 2
                  have z3 : Wj.cell? ⟨B, 3, none⟩ = some (.int .i64 x.to) := hbxj.cell 3
                  have z4 : Wj.cell? ⟨B, 4, none⟩ = some (.int .i64 x.els) := hbxj.cell 4
                  have lbj := hbxj.lt
                  have X7J := bk x7j
                  have hgis := HGIS.out
                  have hxj := CJ.out.2 i.1 (by simp; omega) hgol
                  rw [List.getElem_set_self] at hxj
                  have HXJ := bk hxj
                  have HTA : Bk (Sl RTac Wj.drew (fun b => b < w.heap.size) x.ins (.slice (qs i).1 x.ins.length (qs i).2)) := bk (by
                    have h := (HVS.out i).1
                    rw [HXG.out] at h
                    exact ((((h.below HO3.out).fr HFR1.out (fun b hb _ => HNB.out b (.inl (by omega)))).fr FJ.out (fun b hb _ => by show ¬ b = _; omega))).drew)
                  have HSB : Bk (stepB x i.1 ⟨I', O', mo'⟩ = ⟨I'.set i.1 (orRow I'[i.1] (aheadB x (foldOr I' us (O'.getD i.1 [])))), O'.set i.1 (foldOr I' us (O'.getD i.1 [])), newIn I'[i.1] (aheadB x (foldOr I' us (O'.getD i.1 []))) || mo'⟩) := bk (by
                    have e2 := getD_get I' i.1 (by omega)
                    have e3 : outOf x I' (O'.getD i.1 []) = foldOr I' us (O'.getD i.1 []) := by rw [← HUS'.out]; rfl
                    simp only [stepB, e2, e3])
                  have HWS := bk (stepB_wide (x := x) (b := i.1) (s := ⟨I', O', mo'⟩) hi WI1.out WO1.out (by rw [HUS'.out]; exact HUX.out))
                  have hIl2 : (I'[i.1]).length = m := WI1.out.get _ _
                  clear hgne hbxj x7j hxj hgis
                  gi_wp2_with fail
                  refine wpIn_region_held 9 (fun w' => w'.cell? ⟨b3, 0, none⟩ = some (.slice (some ⟨ha, 0, none⟩) bs.length bs.length) ∧ w'.cell? ⟨b4, 0, none⟩ = some (.slice (some ⟨hb, 0, none⟩) bs.length bs.length) ∧
                    w'.cell? ⟨ha, i.1, none⟩ = some (.slice (some ⟨gi[i.1], 0, none⟩) m m) ∧ w'.cell? ⟨hb, i.1, none⟩ = some (.slice (some ⟨go[i.1], 0, none⟩) m m) ∧ w'.cell? ⟨B, 0, none⟩ = some (.slice (qs i).1 x.ins.length (qs i).2) ∧
                    w'.cell? ⟨B, 1, none⟩ = some (.int .i64 x.fin) ∧ w'.cell? ⟨B, 2, none⟩ = some (.int .i64 x.v) ∧ w'.cell? ⟨B, 3, none⟩ = some (.int .i64 x.to) ∧ w'.cell? ⟨B, 4, none⟩ = some (.int .i64 x.els)) (by kernel_rfl) (by kernel_rfl) (fun c a w h => h) (by rintro ⟨a, w, h⟩; exact h) ⟨jb3, jb4, jha, jhb, z0, z1, z2, z3, z4⟩ ?_
                  simp only [List.take_succ_cons, List.take_zero, List.drop_succ_cons, List.drop_zero]
                  iterate 9
                    refine wpHeld_step ?_ (by rfl) ?_ ?_
                    rotate_left 1
                    · intro w hSw
                      obtain ⟨s1, s2, s3, s4, s5, s6, s7, s8, s9⟩ := hSw
                      go_simp
                      with_reducible rfl
                    simp only [Act.put, List.setIfInBounds_toArray, List.set_cons_zero, List.set_cons_succ]
                  refine wpHeld_nil ?_
                  have HS9 : Bk (∀ (W9 : World) (T : Nat → Prop), Fr T Wj W9 → (∀ y, y = b3 ∨ y = b4 ∨ y = ha ∨ y = hb ∨ y = B → ¬ T y) → W9.cell? ⟨b3, 0, none⟩ = some (.slice (some ⟨ha, 0, none⟩) bs.length bs.length) ∧ W9.cell? ⟨b4, 0, none⟩ = some (.slice (some ⟨hb, 0, none⟩) bs.length bs.length) ∧
                    W9.cell? ⟨ha, i.1, none⟩ = some (.slice (some ⟨gi[i.1], 0, none⟩) m m) ∧ W9.cell? ⟨hb, i.1, none⟩ = some (.slice (some ⟨go[i.1], 0, none⟩) m m) ∧ W9.cell? ⟨B, 0, none⟩ = some (.slice (qs i).1 x.ins.length (qs i).2) ∧
                    W9.cell? ⟨B, 1, none⟩ = some (.int .i64 x.fin) ∧ W9.cell? ⟨B, 2, none⟩ = some (.int .i64 x.v) ∧ W9.cell? ⟨B, 3, none⟩ = some (.int .i64 x.to) ∧ W9.cell? ⟨B, 4, none⟩ = some (.int .i64 x.els)) := bk (fun W9 T hf hn =>
                      ⟨fr_cell (a := ⟨b3, 0, none⟩) hf jb3 (hn _ (by simp)), fr_cell (a := ⟨b4, 0, none⟩) hf jb4 (hn _ (by simp)), fr_cell (a := ⟨ha, i.1, none⟩) hf jha (hn _ (by simp)), fr_cell (a := ⟨hb, i.1, none⟩) hf jhb (hn _ (by simp)),
                        fr_cell (a := ⟨B, 0, none⟩) hf z0 (hn _ (by simp)), fr_cell (a := ⟨B, 1, none⟩) hf z1 (hn _ (by simp)), fr_cell (a := ⟨B, 2, none⟩) hf z2 (hn _ (by simp)), fr_cell (a := ⟨B, 3, none⟩) hf z3 (hn _ (by simp)), fr_cell (a := ⟨B, 4, none⟩) hf z4 (hn _ (by simp))⟩)
                  refine wpSeqH_step (fun K hK => ?_)
                  go_simp
                  refine (throughL x _ _ (foldOr I' us (O'.getD i.1 [])) (fun c => c = go[i.1]) _ Wj.drew HTA.out (Sl.of_bx (ok := fun g => g = go[i.1]) _ m HXJ.out.drew rfl rfl (by omega) (by omega) (by rw [hrl])) (by rw [hrl]; exact HBJ.out) (by omega)).mono ?_
                  rintro e W8 ⟨⟨v8, rfl, hown8⟩, hb8⟩
                  obtain ⟨A8, c8, rfl, hc8⟩ := hown8.any
                  generalize hinn : aheadB x (foldOr I' us (O'.getD i.1 [])) = inn at *
                  have hil : inn.length = m := by rw [← hinn, aheadB_length, hrl]
                  have HIL := bk hil
                  have H8 := bk hown8
                  have F8 : Bk (Fr (fun _ => False) Wj W8) := bk (Fr.of_below (undrew hb8) _)
                  have hsl8 := hown8.sl (h1 := fun _ => rfl) (ok := fun c => Wj.heap.size ≤ c) (fun k hk => (hown8.lt k hk).1) (by omega)
                  have HSL8 := bk hsl8
                  have hg8 : Bx W8 gi[i.1] (I'[i.1].map Value.bool).toArray 4 := (HCJI.out.2 i.1 (by omega) hgil).fr F8.out id
                  have HG8 := bk hg8
                  clear hown8 hb8 hsl8 hg8 hinn hil
                  refine hK _ _ (HS9.out W8 _ F8.out (fun _ _ h => h)) ?_
                  clear hK K
                  try simp only [Act.put, List.setIfInBounds_toArray, List.set_cons_zero, List.set_cons_succ]
                  refine wpSeqH_step (fun K hK => ?_)
                  go_simp
                  refine (addL gi[i.1] m I'[i.1] inn _ (fun c => Wj.heap.size ≤ c) W8 HG8.out hIl2 HSL8.out HIL.out (fun c hc e => by have := HGIS.out; omega) hm).mono ?_
                  rintro e W9 ⟨rfl, hb9, hf9⟩
                  have F9 := bk hf9; have B9 := bk hb9
                  have FW9 : Bk (Fr (fun c => c = gi[i.1]) Wj W9) := bk ((F8.out.mono (fun _ _ h => h.elim)).trans hf9)
                  clear hf9 hb9
                  have hn9 : ∀ y, y = b3 ∨ y = b4 ∨ y = ha ∨ y = hb ∨ y = B → ¬ y = gi[i.1] := fun y hy e => by
                    have := HGIS.out
                    rcases hy with h | h | h | h | h <;> omega
                  have n7gi : ¬ b7 = gi[i.1] := by have := HGIS.out; omega
                  have x79 := X7J.out.fr FW9.out n7gi
                  have c79 : W9.cell? ⟨b7, 0, none⟩ = some (.bool mo') := x79.cell 0
                  have f79 := x79.frozen 0
                  have HS99 := bk (HS9.out W9 _ FW9.out hn9)
                  have X79 := bk x79
                  clear x79 hn9
                  refine hK _ _ HS99.out ?_
                  clear hK K
                  try simp only [Act.put, List.setIfInBounds_toArray, List.set_cons_zero, List.set_cons_succ]
                  generalize hnb : newIn I'[i.1] inn = nb at *
                  have HNBB := bk hnb
                  clear hnb
                  have hset : Fr (fun c => c = gi[i.1] ∨ c = b7) Wj (W9.setCell ⟨b7, 0, none⟩ (.bool (nb || mo'))) := (FW9.out.mono (fun _ _ h => .inl h)).setCell (p := ⟨b7, 0, none⟩) (fun _ => .inr rfl) _
                  have HSET := bk hset
                  have HS10 := bk (HS9.out _ _ hset (fun y hy e => by
                    have := HGIS.out
                    rcases e with e | e
                    · rcases hy with h | h | h | h | h <;> omega
                    · rcases hy with h | h | h | h | h <;> omega))
                  have X710 := bk (X79.out.set 0 (.bool (nb || mo')))
                  clear hset
                  have HEND : Bk (Fr (fun x => x ∈ gi ∨ x ∈ go ∨ x = b7) Wb (W9.setCell ⟨b7, 0, none⟩ (.bool (nb || mo'))) ∧ (Wide bs.length m (stepB x i.1 ⟨I', O', mo'⟩).I ∧ Wide bs.length m (stepB x i.1 ⟨I', O', mo'⟩).O ∧ Cel (W9.setCell ⟨b7, 0, none⟩ (.bool (nb || mo'))) gi (stepB x i.1 ⟨I', O', mo'⟩).I ∧
                      Cel (W9.setCell ⟨b7, 0, none⟩ (.bool (nb || mo'))) go (stepB x i.1 ⟨I', O', mo'⟩).O ∧ Bx (W9.setCell ⟨b7, 0, none⟩ (.bool (nb || mo'))) b7 #[.bool (stepB x i.1 ⟨I', O', mo'⟩).more] 4)) := bk (by
                    have q1 : Fr (fun x => x ∈ gi ∨ x ∈ go ∨ x = b7) Wb Wj := FJ.out.mono (fun _ _ h => by subst h; exact .inr (.inl (List.getElem_mem hgol)))
                    have q2 : Fr (fun x => x ∈ gi ∨ x ∈ go ∨ x = b7) Wj (W9.setCell ⟨b7, 0, none⟩ (.bool (nb || mo'))) := HSET.out.mono (fun _ _ h => by
                      rcases h with h | h
                      · exact .inl (by rw [h]; exact List.getElem_mem hgil)
                      · exact .inr (.inr h))
                    refine ⟨q1.trans q2, HWS.out.1, HWS.out.2, ?_, ?_, ?_⟩
                    · rw [HSB.out]
                      have h := (HCJI.out.frS F8.out (fun _ _ h => h)).upd ND1.out i.1 hgil F9.out B9.out
                      exact h.frS ((Fr.refl (fun c => c = b7) W9).setCell (p := ⟨b7, 0, none⟩) (fun _ => rfl) _) (fun b hb => NI7.out b (.inl hb))
                    · rw [HSB.out]
                      have h := (CJ.out.frS FW9.out (fun b hb e => ND3.out gi[i.1] (List.getElem_mem hgil) b hb e.symm))
                      exact h.frS ((Fr.refl (fun c => c = b7) W9).setCell (p := ⟨b7, 0, none⟩) (fun _ => rfl) _) (fun b hb => NI7.out b (.inr hb))
                    · rw [HSB.out]
                      exact X710.out)
                  cases nb
                  · refine wpSeqH_step (fun K hK => ?_)
                    go_simp
                    refine hK _ _ HS99.out ?_
                    clear hK K
                    try simp only [Act.put, List.setIfInBounds_toArray, List.set_cons_zero, List.set_cons_succ]
                    refine wpSeqH_step (fun K hK => ?_)
                    go_simp
                    refine hK _ _ HS99.out ?_
                    clear hK K
                    try simp only [Act.put, List.setIfInBounds_toArray, List.set_cons_zero, List.set_cons_succ]
                    refine wpSeqH_step (fun K hK => ?_)
                    go_simp
                    refine hK _ _ HS99.out ?_
                    clear hK K
                    try simp only [Act.put, List.setIfInBounds_toArray, List.set_cons_zero, List.set_cons_succ]
                    refine wpSeqH_step (fun K hK => ?_)
                    go_simp
                    refine hK _ _ HS10.out ?_
                    clear hK K
                    refine wpSeqH_nil ?_
                    gi_wp2_with fail
                    exact HEND.out
                  · refine wpSeqH_step (fun K hK => ?_)
                    go_simp
                    refine hK _ _ HS99.out ?_
                    clear hK K
                    try simp only [Act.put, List.setIfInBounds_toArray, List.set_cons_zero, List.set_cons_succ]
                    refine wpSeqH_step (fun K hK => ?_)
                    go_simp
                    refine hK _ _ HS99.out ?_
                    clear hK K
                    try simp only [Act.put, List.setIfInBounds_toArray, List.set_cons_zero, List.set_cons_succ]
                    refine wpSeqH_step (fun K hK => ?_)
                    go_simp
                    refine hK _ _ HS99.out ?_
                    clear hK K
                    try simp only [Act.put, List.setIfInBounds_toArray, List.set_cons_zero, List.set_cons_succ]
                    refine wpSeqH_step (fun K hK => ?_)
                    go_simp
                    refine hK _ _ HS10.out ?_
                    clear hK K
                    refine wpSeqH_nil ?_
                    gi_wp2_with fail
                    exact HEND.out
              -- done]
            case done =>
              rintro D W' hD hJ hfr hK
              rw [foldl_down bs _ bs.length (Nat.le_refl _)] at hJ
              have hlt := downTo_lt bs ⟨I, O, false⟩ bs.length rfl
              have HLV : Bk (liveGo bs I O = liveGo bs (noRows bs.length m) (noRows bs.length m)) := bk (HL1.out rfl)
              have hun : liveGo bs I O = if (downTo bs ⟨I, O, false⟩ bs.length).more = true then liveGo bs (downTo bs ⟨I, O, false⟩ bs.length).I (downTo bs ⟨I, O, false⟩ bs.length).O else downTo bs ⟨I, O, false⟩ bs.length := by
                rw [liveGo]; rfl
              rw [HLV.out] at hun
              have HUN := bk hun; have HLT := bk hlt
              clear hlt hun
              generalize downTo bs ⟨I, O, false⟩ bs.length = st at *
              obtain ⟨I2, O2, mo2⟩ := st
              dsimp only at HUN HLT hJ ⊢
              obtain ⟨hwI, hwO, cI, cO, x7⟩ := hJ
              have c7' : W'.cell? ⟨b7, 0, none⟩ = some (.bool mo2) := x7.cell 0
              have l7' := x7.lt
              have HWI2 := bk hwI; have HWO2 := bk hwO; have CI4 := bk cI; have CO4 := bk cO; have HFR4 := bk hfr; have HK := bk hK
              have hsz' := hfr.size
              have HF24 : Bk (Fr (fun x => x ∈ gi ∨ x ∈ go ∨ x = W1.heap.size + 1) W2 W') := bk (HF23.out.step hfr (fun i hi e => by
                rcases e with e | e | e
                · exact .inl e
                · exact .inr (.inl e)
                · right; right; subst e; omega))
              clear hwI hwO cI cO x7 hfr hK
              go_wp2_with fail
              refine ⟨⟨.bool true, .pointer (some ⟨w.heap.size, 1, none⟩), .slice A bs.length c, .func (.func 63) #[] #[.pointer (some ⟨W.heap.size, 0, none⟩)], .bool mo2, W'.heap.size, D :: ds, I2, O2, mo2⟩, rfl, ⟨HWI2.out, HWO2.out, ?_, ?_, ?_, ?_, ?_, ?_, ?_, ?_, ?_⟩, ?_⟩
              · exact CI4.out.below (alloc1 _ _)
              · exact CO4.out.below (alloc1 _ _)
              · exact Bx.new _ _ _
              · show W1.heap.size < W'.heap.size; omega
              · exact HF24.out.alloc _
              · refine List.nodup_cons.2 ⟨fun h => ?_, NDW.out⟩
                have h1 := (HDS.out D h).2
                have h2 := (Array.getElem?_eq_some_iff.1 h1).1
                omega
              · intro D' hD'
                rcases List.mem_cons.1 hD' with e | e
                · subst e
                  exact ⟨by omega, (Below.heap_alloc _ _ _ (Array.getElem?_eq_some_iff.1 HK.out).1).trans HK.out⟩
                · obtain ⟨h1, h2⟩ := HDS.out D' e
                  have h3 := (Array.getElem?_eq_some_iff.1 h2).1
                  refine ⟨h1, ?_⟩
                  have h4 : W3.heap[D']? = W.heap[D']? := HF43.out.block D' h3 (fun e => by
                    have h8 := X7W.out
                    rw [← e] at h8
                    rw [show W.heap[D']? = _ from h8] at h2
                    cases h2)
                  have h5 : W'.heap[D']? = W3.heap[D']? := HFR4.out.block D' (by omega) (fun e => by
                    rcases e with e | e | e
                    · have := HSZ.out D' (.inl e); omega
                    · have := HSZ.out D' (.inr e); omega
                    · have := X7W.out
                      rw [← e] at this
                      rw [show W.heap[D']? = _ from this] at h2
                      cases h2)
                  exact ((Below.heap_alloc _ _ _ (by omega)).trans (h5.trans h4)).trans h2
              · intro e
                have e : mo2 = true := e
                subst e
                show liveGo bs I2 O2 = _
                rw [HUN.out]; rfl
              · intro e
                have e : mo2 = false := e
                subst e
                show (liveGo bs (noRows bs.length m) (noRows bs.length m)).I = I2 ∧ (liveGo bs (noRows bs.length m) (noRows bs.length m)).O = O2
                rw [HUN.out]
                exact ⟨rfl, rfl⟩
              · cases mo2 with
                | true => have h2 := HLT.out rfl; simp only [if_true]; omega
                | false => simp
end Go.Proofs.Ytiaojefhbhodiaa
