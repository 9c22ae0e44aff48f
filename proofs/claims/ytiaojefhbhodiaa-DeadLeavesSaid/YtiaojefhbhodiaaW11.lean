/-
  Walks: what matters, the least: the reference.
-/
import Derived.Test.YtiaojefhbhodiaaW10b
import Derived.Test.YtiaojefhbhodiaaW35
import Derived.StillTailTactics
import Derived.Deep.DeepCutAuto
set_option linter.unusedVariables false
namespace Go.Proofs.Ytiaojefhbhodiaa
open Go.RowKit

set_option maxRecDepth 100000 in
set_option maxHeartbeats 60000000 in
theorem of27 (f : Fn) (va : Value) (ok : Nat → Prop) (w : World) (ha : Sl RBlk w ok f.blocks va) (hf : f.idx) :
    Calls Try.prog 18 #[.agg #[.int .i64 f.regs, va]] w
    fun e w' => (∃ vi vo, e = .returned (.agg #[vi, vo]) ∧ Sl (.slice RB) w' (fun c => w.heap.size ≤ c) f.live.In vi ∧ Sl (.slice RB) w' (fun c => w.heap.size ≤ c) f.live.Out vo) ∧ Below w.heap.size w w' := by
  obtain ⟨r0, r1, n1, hblk, hnxt⟩ := hf
  obtain ⟨regs, bs⟩ := f
  dsimp only at ha r0 r1 n1 hblk hnxt ⊢
  obtain ⟨A, c, rfl, hc, hn2⟩ := ha.form
  obtain ⟨m, rfl⟩ := Int.eq_ofNat_of_zero_le r0
  have hm : m ≤ 1000000 := by omega
  have HA := bk (ha.mono (ok' := fun b => b < w.heap.size) (fun b _ h => h)); clear ha
  have HBLK := bk hblk; have HNXT := bk hnxt
  clear hblk hnxt r0 r1
  have HNONE := bk (fun W => none27' bs.length m W n1 hm)
  go_enter Try.func18, Try.ntmps18
  go_upto_region 2 with fail
  refine name_world (fun W0 hW0 => ?_)
  obtain ⟨e1, e2⟩ := cells_eq hW0
  have hz : W0.heap.size = w.heap.size + 2 := by subst hW0; simp
  have hx0 : Bx W0 w.heap.size #[.int .i64 m, .slice A bs.length c] 24 := by subst hW0; exact (Bx.new _ _ _).alloc _
  have hx1 : Bx W0 (w.heap.size + 1) #[.slice none 0 0, .slice none 0 0] 41 := by subst hW0; exact Bx.new' (by simp)
  have B0 : Below w.heap.size w W0 := by subst hW0; exact (by repeat (first | exact Below.refl _ _ | exact alloc1 _ _ | refine Below.drew ?_ | refine Below.alloc ?_ (by simp; try omega) _ | refine Below.setCell ?_ (by simp; try omega) _))
  have ci : W0.cell? ⟨w.heap.size, 0, none⟩ = some (.int .i64 m) := hx0.cell 0
  have hy1 : w.heap.size < W0.heap.size := by omega
  have hy2 : w.heap.size < W0.heap.size + 1 := by omega
  have hy3 : w.heap.size ≠ W0.heap.size := by omega
  have hy4 : W0.heap.size ≠ w.heap.size := by omega
  have HZ := bk hz
  clear hz
  have HX1 := bk hx1; have HX0 := bk hx0; have HB0 := bk B0
  clear hW0 B0 hx1 hx0 e1 e2
  go_cut [4] (fun s4 wx => ∃ b vi vo gi go, s4 = .pointer (some ⟨b, 0, none⟩) ∧ W0.heap.size ≤ b ∧ Bx wx b #[vi, vo] 41 ∧ Mat wx W0.heap.size m (noRows bs.length m) vi gi ∧ Mat wx W0.heap.size m (noRows bs.length m) vo go ∧
    (∀ x ∈ gi, x ∉ go ∧ x ≠ b ∧ vo.ownBlock ≠ some x) ∧ (∀ x ∈ go, x ≠ b ∧ vi.ownBlock ≠ some x) ∧ Below W0.heap.size W0 wx)
  case first =>
    -- [done
    go_region_held3 (fun w' => w'.cell? ⟨w.heap.size, 0, none⟩ = some (.int .i64 m)) (go_keep)
      (first
        | (go_at_call 31; have tok := M1; refine (HNONE.out _).mono ?_; rintro e w2 ⟨⟨A2, c2', g2, rfl, M2⟩, hb2⟩; obtain ⟨c2, f2⟩ := bcells hb2; have hs2 := hb2.size; have hq5 : w.heap.size < w2.heap.size := (by first | omega | (simp at hs2; omega)); have hq6 : w2.heap.size ≠ w.heap.size := (by omega); have hq7 : w.heap.size ≠ w2.heap.size := (by omega); have k2 : w2.cell? ⟨w.heap.size, 0, none⟩ = some (.int .i64 m) := (by first | exact cell_below hb2 k1 | exact cell_below hb2 (cell_alloc k1 _)); (try simp only [World.size_alloc] at hs2); (try (have hq11 : w1.heap.size < w2.heap.size := (by omega))); (try (have hq12 : W0.heap.size < w2.heap.size := (by omega))))
        | (go_at_call 31; refine (HNONE.out _).mono ?_; rintro e w1 ⟨⟨A1, c1', g1, rfl, M1⟩, hb1⟩; obtain ⟨c1, f1⟩ := bcells hb1; have hs1 := hb1.size; have hq1 : w.heap.size < w1.heap.size := (by first | omega | (simp at hs1; omega)); have hq2 : w.heap.size < w1.heap.size + 1 := (by omega); have hq3 : w1.heap.size ≠ w.heap.size := (by omega); have hq4 : w.heap.size ≠ w1.heap.size := (by omega); have k1 : w1.cell? ⟨w.heap.size, 0, none⟩ = some (.int .i64 m) := (by first | exact cell_below hb1 ci | exact cell_below hb1 (cell_alloc ci _)); (try simp only [World.size_alloc, World.size_drew] at hs1); (try (have hq10 : W0.heap.size < w1.heap.size := (by omega)))))
    all_goals go_wp2_with fail
    all_goals go_meet
    · refine ⟨w2.heap.size, _, _, _, _, rfl, ofBegun (wa := w1) (wb := w2) M1 M2 (Nat.le_refl _) (Nat.le_refl _) hb2 (.inr (.inr (Nat.le_refl _))) (by omega) hs1 (Bx.new _ _ _) ((Fr.refl _ _).alloc _) ?_⟩
      exact below0 (below0 (undrew hb1) hb2) (alloc1 _ _)
    · have hb3 := below0 (alloc1 w1 _) hb2
      have hbx := (((Bx.new w1 #[.slice none 0 0, .slice none 0 0] 41).below hb2).set 0 (.slice A1 bs.length c1')).set 1 (.slice A2 bs.length c2')
      refine ⟨w1.heap.size, _, _, _, _, rfl, ofBegun (wa := w1) (wb := w2) M1 M2 (Nat.le_refl _) (by simp) hb3 (.inr (.inl ⟨Nat.le_refl _, by simp⟩)) (by omega) hs1 hbx (((Fr.refl (fun c => c = w1.heap.size) _).setCell (p := ⟨w1.heap.size, 0, none⟩) (fun _ => rfl) _).setCell (p := ⟨w1.heap.size, 1, none⟩) (fun _ => rfl) _) ?_⟩
      exact ((below0 (undrew hb1) hb3).setCell (p := ⟨w1.heap.size, 0, none⟩) (by show _ ≤ w1.heap.size; omega) _).setCell (p := ⟨w1.heap.size, 1, none⟩) (by show _ ≤ w1.heap.size; omega) _
    · have hb3 := below0 ((alloc1 W0 _).drew) hb1
      have hbx := ((((Bx.new W0 #[.slice none 0 0, .slice none 0 0] 41).below (undrew hb1)).below hb2).set 0 (.slice A1 bs.length c1')).set 1 (.slice A2 bs.length c2')
      refine ⟨W0.heap.size, _, _, _, _, rfl, ofBegun (wa := w1) (wb := w2) M1 M2 (by simp) (Nat.le_refl _) hb2 (.inl (by simp)) (Nat.le_refl _) (by simp; omega) hbx (((Fr.refl (fun c => c = W0.heap.size) _).setCell (p := ⟨W0.heap.size, 0, none⟩) (fun _ => rfl) _).setCell (p := ⟨W0.heap.size, 1, none⟩) (fun _ => rfl) _) ?_⟩
      exact ((below0 hb3 hb2).setCell (p := ⟨W0.heap.size, 0, none⟩) (Nat.le_refl _) _).setCell (p := ⟨W0.heap.size, 1, none⟩) (Nat.le_refl _) _
    -- done]
  case rest =>
    obtain ⟨b, vi, vo, gi, go, rfl, hb, hbx, hmi, hmo, hg1, hg2, hB⟩ := hcut
    obtain ⟨Ai, ci', rfl, hci⟩ := hmi.form
    obtain ⟨Ao, co', rfl, hco⟩ := hmo.form
    have HMI := bk hmi; have HMO := bk hmo; have HG1 := bk hg1; have HG2 := bk hg2
    have hxx := HX0.out.below (below0 (Below.refl _ _) hB)
    have cx := hxx.cell
    have hl1 := hxx.lt
    have HXX := bk hxx
    have HRX := bk (HX1.out.below (below0 (Below.refl _ _) hB))
    have HBX := bk hbx
    have HBW := bk (below0 HB0.out hB)
    clear hmi hmo hg1 hg2 hxx hbx hB HX0 HX1 ci
    go_wp2_with fail
    refine (next26 bs _ _ _ _ (HA.out.below HBW.out) n1).mono ?_
    rintro e W5 ⟨⟨vn, rfl, hvn⟩, hb5⟩
    obtain ⟨An, cn, rfl, hcn, hnn⟩ := hvn.form
    have HVN := bk hvn
    have HMI5 := bk (HMI.out.below hb5); have HMO5 := bk (HMO.out.below hb5)
    have HXX5 := bk (HXX.out.below hb5)
    have HRX5 := bk (HRX.out.below hb5)
    have HBX5 := bk (HBX.out.below hb5)
    have HBW5 := bk (below0 HBW.out hb5)
    have hnl : (bs.map nextB).length = bs.length := by simp
    have HSZ : Bk (∀ x, x ∈ gi ∨ x ∈ go → x < wc.heap.size ∧ W0.heap.size ≤ x ∧ x ≠ b) := bk <| by
      intro x hx
      rcases hx with hx | hx
      · exact ⟨HMI.out.cel.lt x hx, (HMI.out.far x hx).1, (HG1.out x hx).2.1⟩
      · exact ⟨HMO.out.cel.lt x hx, (HMO.out.far x hx).1, (HG2.out x hx).1⟩
    have NS1 : Bk (¬ (w.heap.size ∈ gi ∨ w.heap.size ∈ go)) := bk <| fun h => by have := HSZ.out _ h; omega
    have NS2 : Bk (¬ (w.heap.size + 1 ∈ gi ∨ w.heap.size + 1 ∈ go)) := bk <| fun h => by have := HSZ.out _ h; have := HZ.out; omega
    have NSB : Bk (¬ (b ∈ gi ∨ b ∈ go)) := bk <| fun h => by have := HSZ.out _ h; omega
    rw [hnl] at HVN ⊢
    clear hvn hb5 cx HMI HMO HXX HBX HBW HRX
    have HNR : Bk (Wide bs.length m (noRows bs.length m)) := bk <| noRows_wide _ _
    go_wp2_with fail
    go_loopg [6] (allFalses (noRows bs.length m) + 1) (fun gn s6 wr => ∃ (I O : Rows) (mo : Bool), s6 = .bool mo ∧ gn = (if mo then allFalses I + 1 else 0) ∧ Wide bs.length m I ∧ Wide bs.length m O ∧ Cel wr gi I ∧ Cel wr go O ∧ Fr (fun x => x ∈ gi ∨ x ∈ go) W5 wr ∧
      Hid ((mo = true → liveGo bs I O = liveGo bs (noRows bs.length m) (noRows bs.length m)) ∧ (mo = false → (liveGo bs (noRows bs.length m) (noRows bs.length m)).I = I ∧ (liveGo bs (noRows bs.length m) (noRows bs.length m)).O = O)))
    case atStart => exact ⟨_, _, true, rfl, rfl, HNR.out, HNR.out, HMI5.out.cel, HMO5.out.cel, Fr.refl _ _, fun _ => rfl, fun h => by cases h⟩
    case round =>
      obtain ⟨wo1, rfl⟩ : ∃ wo : World, wo = wr := ⟨_, rfl⟩
      obtain ⟨I1, O1, mo, rfl, hgn, hwI, hwO, hcI, hcO, hfr, hlive⟩ := hrel
      have HWI := bk hwI; have HWO := bk hwO; have HCI := bk hcI; have HCO := bk hcO; have HFR := bk hfr; have HGN := bk hgn
      have HLIVE := bk hlive
      clear hwI hwO hcI hcO hfr hgn hlive
      have cx1 := (HXX5.out.fr HFR.out NS1.out).cell
      have hl2 := (HXX5.out.fr HFR.out NS1.out).lt
      cases mo with
      | false =>
        have cb1 := (HBX5.out.fr HFR.out NSB.out).cell
        have cr1 := (HRX5.out.fr HFR.out NS2.out).cell
        have fr1 := (HRX5.out.fr HFR.out NS2.out).frozen
        have hIO := HLIVE.out.2 rfl
        have HI1 : Bk ((liveGo bs (noRows bs.length m) (noRows bs.length m)).I = I1) := bk hIO.1
        have HO1 : Bk ((liveGo bs (noRows bs.length m) (noRows bs.length m)).O = O1) := bk hIO.2
        clear hIO
        have hr0 := ((HRX5.out.fr HFR.out NS2.out).set 0 (.slice Ai (noRows bs.length m).length ci')).cell 0
        have hr1 := (((HRX5.out.fr HFR.out NS2.out).set 0 (.slice Ai (noRows bs.length m).length ci')).set 1 (.slice Ao (noRows bs.length m).length co')).cell 1
        have MI := bk ((((HMI5.out.turn HFR.out (fun b hb h => by rcases h with h | h
                                                                  · exact (HMI5.out.far b h).2 hb
                                                                  · exact (HG2.out b h).2 hb) HCI.out HWI.out.2).other ⟨w.heap.size + 1, 0, none⟩ (.slice Ai (noRows bs.length m).length ci') (by show w.heap.size + 1 < _; have := HZ.out; omega)).other ⟨w.heap.size + 1, 1, none⟩ (.slice Ao (noRows bs.length m).length co') (by show w.heap.size + 1 < _; have := HZ.out; omega)).sl hm (by rw [HWI.out.1]; exact n1))
        have MO := bk ((((HMO5.out.turn HFR.out (fun b hb h => by rcases h with h | h
                                                                  · exact (HG1.out b h).2.2 hb
                                                                  · exact (HMO5.out.far b h).2 hb) HCO.out HWO.out.2).other ⟨w.heap.size + 1, 0, none⟩ (.slice Ai (noRows bs.length m).length ci') (by show w.heap.size + 1 < _; have := HZ.out; omega)).other ⟨w.heap.size + 1, 1, none⟩ (.slice Ao (noRows bs.length m).length co') (by show w.heap.size + 1 < _; have := HZ.out; omega)).sl hm (by rw [HWO.out.1]; exact n1))
        have HBE : Bk (Below w.heap.size w wo1) := bk <| HBW5.out.trans (HFR.out.to_below (fun x h => by have := HSZ.out x h; have := HZ.out; omega) HBW5.out.size)
        simp only [List.size_toArray, List.length_cons, List.length_nil, Array.setIfInBounds_def] at hr0 hr1
        simp at hr0 hr1
        go_wp2_with fail
        refine bodyPost_ret (v := .agg #[.slice Ai (noRows bs.length m).length ci', .slice Ao (noRows bs.length m).length co']) (by simp [results, Try.results18, go_sem, hr0, hr1]) rfl ⟨⟨_, _, rfl, ?_, ?_⟩, ?_⟩
        · have h := MI.out.mono (ok' := fun c => w.heap.size ≤ c) (fun b hb _ => by have := HZ.out; omega)
          rw [← HI1.out] at h
          exact h
        · have h := MO.out.mono (ok' := fun c => w.heap.size ≤ c) (fun b hb _ => by have := HZ.out; omega)
          rw [← HO1.out] at h
          exact h
        · exact (HBE.out.setCell (p := ⟨w.heap.size + 1, 0, none⟩) (by show w.heap.size ≤ w.heap.size + 1; omega) _).setCell (p := ⟨w.heap.size + 1, 1, none⟩) (by show w.heap.size ≤ w.heap.size + 1; omega) _
      | true =>
        go_wp2_with fail
        go_loopg [6, 7] bs.length (fun gk s6 s7 wr => ∃ z : Int, s7 = .int .i64 z ∧ -1 ≤ z ∧ z < bs.length ∧ gk = (z + 1).toNat ∧ s6 = .bool (downTo bs ⟨I1, O1, false⟩ ((bs.length : Int) - 1 - z).toNat).more ∧
          Cel wr gi (downTo bs ⟨I1, O1, false⟩ ((bs.length : Int) - 1 - z).toNat).I ∧ Cel wr go (downTo bs ⟨I1, O1, false⟩ ((bs.length : Int) - 1 - z).toNat).O ∧ Fr (fun x => x ∈ gi ∨ x ∈ go) W5 wr)
        case atStart =>
          refine ⟨_, rfl, by omega, by omega, by omega, ?_, ?_, ?_, HFR.out⟩
          · rw [show ((bs.length : Int) - 1 - ((bs.length : Int) - 1)).toNat = 0 by omega]; rfl
          · rw [show ((bs.length : Int) - 1 - ((bs.length : Int) - 1)).toNat = 0 by omega]; exact HCI.out
          · rw [show ((bs.length : Int) - 1 - ((bs.length : Int) - 1)).toNat = 0 by omega]; exact HCO.out
        case round =>
          obtain ⟨wo2, rfl⟩ : ∃ wo : World, wo = wr := ⟨_, rfl⟩
          obtain ⟨z, rfl, hz1, hz2, hgk, rfl, hcI, hcO, hfr⟩ := hrel
          have hdw := downTo_wide (m := m) rfl HWI.out HWO.out HNXT.out ((bs.length : Int) - 1 - z).toNat (s := ⟨I1, O1, false⟩)
          by_cases h0 : 0 ≤ z
          · obtain ⟨j, rfl⟩ := Int.eq_ofNat_of_zero_le h0
            have hj : j < bs.length := by omega
            have hde : downTo bs ⟨I1, O1, false⟩ (((bs.length : Int) - 1 - j).toNat + 1) = stepB bs[j] j (downTo bs ⟨I1, O1, false⟩ ((bs.length : Int) - 1 - j).toNat) := by
              have e : bs.length - (((bs.length : Int) - 1 - j).toNat + 1) = j := by omega
              rw [downTo]
              simp only [e, hj, dif_pos]
            have hd2 : ((bs.length : Int) - 1 - ((j : Int) - 1)).toNat = ((bs.length : Int) - 1 - j).toNat + 1 := by omega
            generalize hst : downTo bs ⟨I1, O1, false⟩ ((bs.length : Int) - 1 - j).toNat = st at *
            obtain ⟨I, O, mo⟩ := st
            dsimp only at hcI hcO hdw ⊢
            have HCI2 := bk hcI; have HCO2 := bk hcO; have HFR2 := bk hfr; have HGK := bk hgk; have HWI2 := bk hdw.1; have HWO2 := bk hdw.2; have HDE := bk hde; have HD2 := bk hd2
            clear hcI hcO hfr hgk hdw hde hd2 hst cx1 hl2
            have cx2 := (HXX5.out.fr HFR2.out NS1.out).cell
            have hl3 := (HXX5.out.fr HFR2.out NS1.out).lt
            go_wp2_with fail
            have hvnj := HVN.out.row j (by simp; omega)
            obtain ⟨gn, on, An2, cn2, hAn, _, hgn1, hvu, hnu, hcn1⟩ := hvnj
            subst hAn
            have hgn2 : wc.heap.size ≤ gn := by assumption
            have hmap : (bs.map nextB)[j]'(by simp; omega) = nextB bs[j] := by simp
            rw [hmap] at hvu hcn1
            have HVU := bk hvu
            have hus := HNXT.out _ (List.getElem_mem hj)
            have HUS := bk hus
            have HBJ := bk (HBLK.out _ (List.getElem_mem hj))
            have hul : (nextB bs[j]).length ≤ 2 := by unfold nextB; split <;> (try split) <;> simp
            have NSN : Bk (¬ (gn ∈ gi ∨ gn ∈ go)) := bk <| fun h => by have := HSZ.out _ h; omega
            generalize hus' : nextB bs[j] = us at *
            have HUS' := bk hus'
            clear hvu hus hmap hus'
            have hgoj : j < go.length := by have := HMO5.out.cel.1; simp [noRows] at this; omega
            have hgij : j < gi.length := by have := HMI5.out.cel.1; simp [noRows] at this; omega
            obtain ⟨ho, capo, hvo, hho1, hho2, _⟩ := HMO5.out.own.form' (by omega)
            obtain ⟨hi, capi, hvi, hhi1, hhi2, _⟩ := HMI5.out.own.form' (by omega)
            have NSO : Bk (¬ (ho ∈ gi ∨ ho ∈ go)) := bk <| by
              rintro (h | h)
              · exact (HG1.out ho h).2.2 (by rw [hvo]; rfl)
              · exact (HMO5.out.far ho h).2 (by rw [hvo]; rfl)
            have NSI : Bk (¬ (hi ∈ gi ∨ hi ∈ go)) := bk <| by
              rintro (h | h)
              · exact (HMI5.out.far hi h).2 (by rw [hvi]; rfl)
              · exact (HG2.out hi h).2 (by rw [hvi]; rfl)
            have hOO := HMO5.out.own; rw [hvo] at hOO
            have hII := HMI5.out.own; rw [hvi] at hII
            have HHO : Bk (∀ i (h : i < go.length), W5.cell? ⟨ho, i, none⟩ = some (hdr m go[i])) := bk <| fun i h => hOO.cell i h
            have HHI : Bk (∀ i (h : i < gi.length), W5.cell? ⟨hi, i, none⟩ = some (hdr m gi[i])) := bk <| fun i h => hII.cell i h
            have HND : Bk (gi.Nodup ∧ go.Nodup ∧ gi.length = bs.length ∧ go.length = bs.length) := bk <| ⟨HMI5.out.nodup, HMO5.out.nodup, by have := HMI5.out.cel.1; simpa [noRows] using this, by have := HMO5.out.cel.1; simpa [noRows] using this⟩
            have HBX6 := HBX5
            rw [hvo, hvi] at HBX6
            clear hOO hII hvo hvi
            have hOj : j < O.length := by rw [HWO2.out.1]; exact hj
            have hIj : j < I.length := by rw [HWI2.out.1]; exact hj
            have HOL := bk (HWO2.out.get j hOj)
            go_loopg [8] us.length (fun gu s8 wr => ∃ i : Nat, i ≤ us.length ∧ s8 = .int .i64 i ∧ gu = us.length - i ∧ Cel wr go (O.set j (foldOr I (us.take i) O[j])) ∧ Cel wr gi I ∧ Fr (fun x => x ∈ gi ∨ x ∈ go) W5 wr)
            case atStart =>
              refine ⟨0, Nat.zero_le _, rfl, rfl, ?_, HCI2.out, HFR2.out⟩
              have : O.set j (foldOr I (us.take 0) O[j]) = O := by simp [foldOr]
              rw [this]
              exact HCO2.out
            case round =>
              obtain ⟨wo3, rfl⟩ : ∃ wo : World, wo = wr := ⟨_, rfl⟩
              obtain ⟨i, hi, rfl, hgu, hcO3, hcI3, hfr3⟩ := hrel
              have HCO3 := bk hcO3; have HCI3 := bk hcI3; have HFR3 := bk hfr3; have HGU := bk hgu
              have c11 := fr_cell hfr3 hcn1 NSN.out
              clear hcO3 hcI3 hfr3 hgu cx2 hl3
              by_cases hlt : i < us.length
              · skip
                -- [done
                go_wp2_with fail
                obtain ⟨gu2, ou2, hAu, _, hgu2, hcu2⟩ := HVU.out.one i hlt
                subst hAu
                have hgu3 : wc.heap.size ≤ gu2 := by assumption
                have NSU : Bk (¬ (gu2 ∈ gi ∨ gu2 ∈ go)) := bk <| fun h => by have := HSZ.out _ h; omega
                obtain ⟨hk1, hk2⟩ := HUS.out _ (List.getElem_mem hlt)
                have hft := foldOr_take I us O[j] i hlt
                have hcl := foldOr_length HWI2.out (us.take i) (fun k hk => HUS.out k (List.mem_of_mem_take hk)) O[j] HOL.out
                have hkI : us[i].toNat < I.length := by rw [HWI2.out.1]; omega
                have hkg : us[i].toNat < gi.length := by have := HND.out.2.2.1; omega
                have hk3 : us[i] < (gi.length : Int) := by omega
                have hsl := HWI2.out.get us[i].toNat hkI
                have hsg : I.getD us[i].toNat [] = I[us[i].toNat] := by rw [List.getD_eq_getElem?_getD, List.getElem?_eq_getElem hkI]; rfl
                rw [hsg] at hft
                have hck := HHI.out us[i].toNat hkg
                have hrow : ∀ (W : World), Cel W gi I → ∀ v, v < m → W.cell? ⟨gi[us[i].toNat], v, none⟩ = some (.bool (I[us[i].toNat].getD v false)) := fun W h v hv => by
                  rw [h.cell us[i].toNat v hkI hkg (by rw [hsl]; exact hv)]
                  simp [List.getD_eq_getElem?_getD, hsl, hv]
                have HROW := bk hrow; have HCK := bk hck
                have HFT := bk hft; have HCL := bk hcl; have HSL := bk hsl
                have HCU := bk hcu2
                generalize I[us[i].toNat] = src at *
                generalize foldOr I (us.take i) O[j] = cur at *
                generalize us[i] = k at *
                clear hrow hck hft hcl hsl hcu2 hsg
                go_loopg [9] m (fun gv s9 wr => ∃ v : Nat, v ≤ m ∧ s9 = .int .i64 v ∧ gv = m - v ∧ Cel wr go (O.set j (orTo v cur src)) ∧ Cel wr gi I ∧ Fr (fun x => x ∈ gi ∨ x ∈ go) W5 wr)
                case atStart => exact ⟨0, Nat.zero_le _, rfl, rfl, HCO3.out, HCI3.out, HFR3.out⟩
                case round =>
                  obtain ⟨wo4, rfl⟩ : ∃ wo : World, wo = wr := ⟨_, rfl⟩
                  obtain ⟨v, hv, rfl, hgv, hcO4, hcI4, hfr4⟩ := hrel
                  have HCO4 := bk hcO4; have HCI4 := bk hcI4; have HFR4 := bk hfr4; have HGV := bk hgv
                  have cx4 := (HXX5.out.fr hfr4 NS1.out).cell
                  clear hcO4 hcI4 hfr4 hgv c11
                  by_cases hlv : v < m
                  · have cb4 := (HBX6.out.fr HFR4.out NSB.out).cell
                    have ch4 := fr_cell HFR4.out (HHO.out j hgoj) NSO.out
                    have ci4 := fr_cell HFR4.out HCK.out NSI.out
                    have cu4 := fr_cell HFR4.out HCU.out NSU.out
                    have cn4 := fr_cell HFR4.out hcn1 NSN.out
                    have cs4 := HROW.out wo4 HCI4.out v hlv
                    have hjl : j < (O.set j (orTo v cur src)).length := by simp; exact hOj
                    have hvl : v < (orTo v cur src).length := by rw [orTo_length]; have := HCL.out; omega
                    have co4 := HCO4.out.cell j v hjl hgoj (by simpa using hvl)
                    have cf4 := HCO4.out.frozen j v hjl hgoj
                    simp only [List.getElem_set_self] at co4
                    rw [orTo_get v cur src (by have := HCL.out; omega) hvl, show cur[v]'(by have := HCL.out; omega) = cur.getD v false by rw [List.getD_eq_getElem?_getD, List.getElem?_eq_getElem (by have := HCL.out; omega)]; rfl] at co4
                    unfold hdr at ch4 ci4
                    have HST := bk (HCO4.out.set HND.out.2.1 j v hjl hgoj)
                    have HSX : Bk (∀ x, v < cur.length → v < src.length → x = (cur.getD v false || src.getD v false) → (orTo v cur src).set v x = orTo (v + 1) cur src) := bk <| by
                      intro x h1 h2 hx
                      rw [orTo_succ v cur src (by have := HCL.out; have := HSL.out; omega) h1, hx]
                      simp [h1, h2]
                    have hcv : v < cur.length := by have := HCL.out; omega
                    have hsv : v < src.length := by have := HSL.out; omega
                    generalize cur.getD v false = bo at *
                    generalize src.getD v false = bsr at *
                    cases bo
                    · go_upto_region 16 with fail
                      refine wp_region_noPanic ?_
                      refine wp_region_G [31] (fun w' => ∀ a, w'.cell? a = wo4.cell? a) (by kernel_rfl) ?_
                      refine GoG.take 0 rfl (by kernel_rfl) (fun c a w h => h) (fun a => rfl) ?_ (by rfl) ?_ ?_
                      rotate_left 1
                      · intro w hSw
                        go_simp
                        with_reducible rfl
                      try simp only [Act.put, List.setIfInBounds_toArray, List.set_cons_zero, List.set_cons_succ]
                      refine GoG.take 1 rfl (by kernel_rfl) (fun c a w h => h) (fun a => rfl) ?_ (by rfl) ?_ ?_
                      rotate_left 1
                      · intro w hSw
                        go_simp
                        with_reducible rfl
                      try simp only [Act.put, List.setIfInBounds_toArray, List.set_cons_zero, List.set_cons_succ]
                      refine GoG.take 2 rfl (by kernel_rfl) (fun c a w h => h) (fun a => rfl) ?_ (by rfl) ?_ ?_
                      rotate_left 1
                      · intro w hSw
                        go_simp
                        with_reducible rfl
                      try simp only [Act.put, List.setIfInBounds_toArray, List.set_cons_zero, List.set_cons_succ]
                      refine GoG.take 3 rfl (by kernel_rfl) (fun c a w h => h) (fun a => rfl) ?_ (by rfl) ?_ ?_
                      rotate_left 1
                      · intro w hSw
                        go_simp
                        with_reducible rfl
                      try simp only [Act.put, List.setIfInBounds_toArray, List.set_cons_zero, List.set_cons_succ]
                      refine GoG.take 4 rfl (by kernel_rfl) (fun c a w h => h) (fun a => rfl) ?_ (by rfl) ?_ ?_
                      rotate_left 1
                      · intro w hSw
                        go_simp
                        with_reducible rfl
                      try simp only [Act.put, List.setIfInBounds_toArray, List.set_cons_zero, List.set_cons_succ]
                      refine GoG.take 5 rfl (by kernel_rfl) (fun c a w h => h) (fun a => rfl) ?_ (by rfl) ?_ ?_
                      rotate_left 1
                      · intro w hSw
                        go_simp
                        with_reducible rfl
                      try simp only [Act.put, List.setIfInBounds_toArray, List.set_cons_zero, List.set_cons_succ]
                      refine GoG.take 6 rfl (by kernel_rfl) (fun c a w h => h) (fun a => rfl) ?_ (by rfl) ?_ ?_
                      rotate_left 1
                      · intro w hSw
                        go_simp
                        with_reducible rfl
                      try simp only [Act.put, List.setIfInBounds_toArray, List.set_cons_zero, List.set_cons_succ]
                      refine GoG.take 7 rfl (by kernel_rfl) (fun c a w h => h) (fun a => rfl) ?_ (by rfl) ?_ ?_
                      rotate_left 1
                      · intro w hSw
                        go_simp
                        with_reducible rfl
                      try simp only [Act.put, List.setIfInBounds_toArray, List.set_cons_zero, List.set_cons_succ]
                      refine GoG.take 8 rfl (by kernel_rfl) (fun c a w h => h) (fun a => rfl) ?_ (by rfl) ?_ ?_
                      rotate_left 1
                      · intro w hSw
                        go_simp
                        with_reducible rfl
                      try simp only [Act.put, List.setIfInBounds_toArray, List.set_cons_zero, List.set_cons_succ]
                      refine GoG.take 9 rfl (by kernel_rfl) (fun c a w h => h) (fun a => rfl) ?_ (by rfl) ?_ ?_
                      rotate_left 1
                      · intro w hSw
                        go_simp
                        with_reducible rfl
                      try simp only [Act.put, List.setIfInBounds_toArray, List.set_cons_zero, List.set_cons_succ]
                      refine GoG.take 10 rfl (by kernel_rfl) (fun c a w h => h) (fun a => rfl) ?_ (by rfl) ?_ ?_
                      rotate_left 1
                      · intro w hSw
                        go_simp
                        with_reducible rfl
                      try simp only [Act.put, List.setIfInBounds_toArray, List.set_cons_zero, List.set_cons_succ]
                      refine GoG.take 11 rfl (by kernel_rfl) (fun c a w h => h) (fun a => rfl) ?_ (by rfl) ?_ ?_
                      rotate_left 1
                      · intro w hSw
                        go_simp
                        with_reducible rfl
                      try simp only [Act.put, List.setIfInBounds_toArray, List.set_cons_zero, List.set_cons_succ]
                      refine GoG.take 12 rfl (by kernel_rfl) (fun c a w h => h) (fun a => rfl) ?_ (by rfl) ?_ ?_
                      rotate_left 1
                      · intro w hSw
                        go_simp
                        with_reducible rfl
                      try simp only [Act.put, List.setIfInBounds_toArray, List.set_cons_zero, List.set_cons_succ]
                      refine GoG.take 13 rfl (by kernel_rfl) (fun c a w h => h) (fun a => rfl) ?_ (by rfl) ?_ ?_
                      rotate_left 1
                      · intro w hSw
                        go_simp
                        with_reducible rfl
                      try simp only [Act.put, List.setIfInBounds_toArray, List.set_cons_zero, List.set_cons_succ]
                      refine GoG.take 14 rfl (by kernel_rfl) (fun c a w h => h) (fun a => rfl) ?_ (by rfl) ?_ ?_
                      rotate_left 1
                      · intro w hSw
                        go_simp
                        with_reducible rfl
                      try simp only [Act.put, List.setIfInBounds_toArray, List.set_cons_zero, List.set_cons_succ]
                      refine GoG.take 15 rfl (by kernel_rfl) (fun c a w h => h) (fun a => rfl) ?_ (by rfl) ?_ ?_
                      rotate_left 1
                      · intro w hSw
                        go_simp
                        with_reducible rfl
                      try simp only [Act.put, List.setIfInBounds_toArray, List.set_cons_zero, List.set_cons_succ]
                      refine GoG.take 16 rfl (by kernel_rfl) (fun c a w h => h) (fun a => rfl) ?_ (by rfl) ?_ ?_
                      rotate_left 1
                      · intro w hSw
                        go_simp
                        with_reducible rfl
                      try simp only [Act.put, List.setIfInBounds_toArray, List.set_cons_zero, List.set_cons_succ]
                      refine GoG.take 17 rfl (by kernel_rfl) (fun c a w h => h) (fun a => rfl) ?_ (by rfl) ?_ ?_
                      rotate_left 1
                      · intro w hSw
                        go_simp
                        with_reducible rfl
                      try simp only [Act.put, List.setIfInBounds_toArray, List.set_cons_zero, List.set_cons_succ]
                      refine GoG.take 18 rfl (by kernel_rfl) (fun c a w h => h) (fun a => rfl) ?_ (by rfl) ?_ ?_
                      rotate_left 1
                      · intro w hSw
                        go_simp
                        with_reducible rfl
                      try simp only [Act.put, List.setIfInBounds_toArray, List.set_cons_zero, List.set_cons_succ]
                      refine GoG.take 19 rfl (by kernel_rfl) (fun c a w h => h) (fun a => rfl) ?_ (by rfl) ?_ ?_
                      rotate_left 1
                      · intro w hSw
                        go_simp
                        with_reducible rfl
                      try simp only [Act.put, List.setIfInBounds_toArray, List.set_cons_zero, List.set_cons_succ]
                      refine GoG.take 20 rfl (by kernel_rfl) (fun c a w h => h) (fun a => rfl) ?_ (by rfl) ?_ ?_
                      rotate_left 1
                      · intro w hSw
                        go_simp
                        with_reducible rfl
                      try simp only [Act.put, List.setIfInBounds_toArray, List.set_cons_zero, List.set_cons_succ]
                      refine GoG.take 21 rfl (by kernel_rfl) (fun c a w h => h) (fun a => rfl) ?_ (by rfl) ?_ ?_
                      rotate_left 1
                      · intro w hSw
                        go_simp
                        with_reducible rfl
                      try simp only [Act.put, List.setIfInBounds_toArray, List.set_cons_zero, List.set_cons_succ]
                      refine GoG.take 22 rfl (by kernel_rfl) (fun c a w h => h) (fun a => rfl) ?_ (by rfl) ?_ ?_
                      rotate_left 1
                      · intro w hSw
                        go_simp
                        with_reducible rfl
                      try simp only [Act.put, List.setIfInBounds_toArray, List.set_cons_zero, List.set_cons_succ]
                      refine GoG.take 23 rfl (by kernel_rfl) (fun c a w h => h) (fun a => rfl) ?_ (by rfl) ?_ ?_
                      rotate_left 1
                      · intro w hSw
                        go_simp
                        with_reducible rfl
                      try simp only [Act.put, List.setIfInBounds_toArray, List.set_cons_zero, List.set_cons_succ]
                      refine GoG.take 24 rfl (by kernel_rfl) (fun c a w h => h) (fun a => rfl) ?_ (by rfl) ?_ ?_
                      rotate_left 1
                      · intro w hSw
                        go_simp
                        with_reducible rfl
                      try simp only [Act.put, List.setIfInBounds_toArray, List.set_cons_zero, List.set_cons_succ]
                      refine GoG.take 25 rfl (by kernel_rfl) (fun c a w h => h) (fun a => rfl) ?_ (by rfl) ?_ ?_
                      rotate_left 1
                      · intro w hSw
                        go_simp
                        with_reducible rfl
                      try simp only [Act.put, List.setIfInBounds_toArray, List.set_cons_zero, List.set_cons_succ]
                      refine GoG.take 26 rfl (by kernel_rfl) (fun c a w h => h) (fun a => rfl) ?_ (by rfl) ?_ ?_
                      rotate_left 1
                      · intro w hSw
                        go_simp
                        with_reducible rfl
                      try simp only [Act.put, List.setIfInBounds_toArray, List.set_cons_zero, List.set_cons_succ]
                      refine GoG.take 27 rfl (by kernel_rfl) (fun c a w h => h) (fun a => rfl) ?_ (by rfl) ?_ ?_
                      rotate_left 1
                      · intro w hSw
                        go_simp
                        with_reducible rfl
                      try simp only [Act.put, List.setIfInBounds_toArray, List.set_cons_zero, List.set_cons_succ]
                      refine GoG.take 28 rfl (by kernel_rfl) (fun c a w h => h) (fun a => rfl) ?_ (by rfl) ?_ ?_
                      rotate_left 1
                      · intro w hSw
                        go_simp
                        with_reducible rfl
                      try simp only [Act.put, List.setIfInBounds_toArray, List.set_cons_zero, List.set_cons_succ]
                      refine GoG.take 29 rfl (by kernel_rfl) (fun c a w h => h) (fun a => rfl) ?_ (by rfl) ?_ ?_
                      rotate_left 1
                      · intro w hSw
                        go_simp
                        with_reducible rfl
                      try simp only [Act.put, List.setIfInBounds_toArray, List.set_cons_zero, List.set_cons_succ]
                      refine GoG.take 30 rfl (by kernel_rfl) (fun c a w h => h) (fun a => rfl) ?_ (by rfl) ?_ ?_
                      rotate_left 1
                      · intro w hSw
                        go_simp
                        with_reducible rfl
                      try simp only [Act.put, List.setIfInBounds_toArray, List.set_cons_zero, List.set_cons_succ]
                      refine GoG.alone 31 rfl (by kernel_rfl) (fun K hK => ?_)
                      go_simp
                      refine hK _ _ (fun h => absurd (show true = false from h) (by decide)) ?_
                      clear hK K
                      try simp only [Act.put, List.setIfInBounds_toArray, List.set_cons_zero, List.set_cons_succ]
                      refine GoG.done (by kernel_rfl) ?_
                      refine NoPanic.normal ?_
                      go_wp2_with fail
                      go_roundg (m - (v + 1))
                      case measure => have := HGV.out; omega
                      case rel =>
                        refine ⟨v + 1, by omega, by go_num, rfl, ?_, ?_, ?_⟩
                        · have h := HST.out
                          simp only [List.getElem_set_self, List.set_set] at h
                          have h2 := HSX.out _ hcv hsv (by rfl)
                          rw [← h2]
                          exact (h _).drew
                        · have h : go[j] ∉ gi := fun h => (HG1.out _ h).1 (List.getElem_mem hgoj)
                          exact (HCI4.out.other ⟨go[j], v, none⟩ _ h).drew
                        · have h : go[j] ∈ gi ∨ go[j] ∈ go := .inr (List.getElem_mem hgoj)
                          exact (HFR4.out.setCell (p := ⟨go[j], v, none⟩) (fun _ => h) _).drew
                    · go_upto_region 16 with fail
                      refine wp_region_noPanic ?_
                      refine wp_region_G [31] (fun w' => ∀ a, w'.cell? a = wo4.cell? a) (by kernel_rfl) ?_
                      refine GoG.take 0 rfl (by kernel_rfl) (fun c a w h => h) (fun a => rfl) ?_ (by rfl) ?_ ?_
                      rotate_left 1
                      · intro w hSw
                        go_simp
                        with_reducible rfl
                      try simp only [Act.put, List.setIfInBounds_toArray, List.set_cons_zero, List.set_cons_succ]
                      refine GoG.take 1 rfl (by kernel_rfl) (fun c a w h => h) (fun a => rfl) ?_ (by rfl) ?_ ?_
                      rotate_left 1
                      · intro w hSw
                        go_simp
                        with_reducible rfl
                      try simp only [Act.put, List.setIfInBounds_toArray, List.set_cons_zero, List.set_cons_succ]
                      refine GoG.take 2 rfl (by kernel_rfl) (fun c a w h => h) (fun a => rfl) ?_ (by rfl) ?_ ?_
                      rotate_left 1
                      · intro w hSw
                        go_simp
                        with_reducible rfl
                      try simp only [Act.put, List.setIfInBounds_toArray, List.set_cons_zero, List.set_cons_succ]
                      refine GoG.take 3 rfl (by kernel_rfl) (fun c a w h => h) (fun a => rfl) ?_ (by rfl) ?_ ?_
                      rotate_left 1
                      · intro w hSw
                        go_simp
                        with_reducible rfl
                      try simp only [Act.put, List.setIfInBounds_toArray, List.set_cons_zero, List.set_cons_succ]
                      refine GoG.take 4 rfl (by kernel_rfl) (fun c a w h => h) (fun a => rfl) ?_ (by rfl) ?_ ?_
                      rotate_left 1
                      · intro w hSw
                        go_simp
                        with_reducible rfl
                      try simp only [Act.put, List.setIfInBounds_toArray, List.set_cons_zero, List.set_cons_succ]
                      refine GoG.take 5 rfl (by kernel_rfl) (fun c a w h => h) (fun a => rfl) ?_ (by rfl) ?_ ?_
                      rotate_left 1
                      · intro w hSw
                        go_simp
                        with_reducible rfl
                      try simp only [Act.put, List.setIfInBounds_toArray, List.set_cons_zero, List.set_cons_succ]
                      refine GoG.take 6 rfl (by kernel_rfl) (fun c a w h => h) (fun a => rfl) ?_ (by rfl) ?_ ?_
                      rotate_left 1
                      · intro w hSw
                        go_simp
                        with_reducible rfl
                      try simp only [Act.put, List.setIfInBounds_toArray, List.set_cons_zero, List.set_cons_succ]
                      refine GoG.take 7 rfl (by kernel_rfl) (fun c a w h => h) (fun a => rfl) ?_ (by rfl) ?_ ?_
                      rotate_left 1
                      · intro w hSw
                        go_simp
                        with_reducible rfl
                      try simp only [Act.put, List.setIfInBounds_toArray, List.set_cons_zero, List.set_cons_succ]
                      refine GoG.take 8 rfl (by kernel_rfl) (fun c a w h => h) (fun a => rfl) ?_ (by rfl) ?_ ?_
                      rotate_left 1
                      · intro w hSw
                        go_simp
                        with_reducible rfl
                      try simp only [Act.put, List.setIfInBounds_toArray, List.set_cons_zero, List.set_cons_succ]
                      refine GoG.take 9 rfl (by kernel_rfl) (fun c a w h => h) (fun a => rfl) ?_ (by rfl) ?_ ?_
                      rotate_left 1
                      · intro w hSw
                        go_simp
                        with_reducible rfl
                      try simp only [Act.put, List.setIfInBounds_toArray, List.set_cons_zero, List.set_cons_succ]
                      refine GoG.take 10 rfl (by kernel_rfl) (fun c a w h => h) (fun a => rfl) ?_ (by rfl) ?_ ?_
                      rotate_left 1
                      · intro w hSw
                        go_simp
                        with_reducible rfl
                      try simp only [Act.put, List.setIfInBounds_toArray, List.set_cons_zero, List.set_cons_succ]
                      refine GoG.take 11 rfl (by kernel_rfl) (fun c a w h => h) (fun a => rfl) ?_ (by rfl) ?_ ?_
                      rotate_left 1
                      · intro w hSw
                        go_simp
                        with_reducible rfl
                      try simp only [Act.put, List.setIfInBounds_toArray, List.set_cons_zero, List.set_cons_succ]
                      refine GoG.take 12 rfl (by kernel_rfl) (fun c a w h => h) (fun a => rfl) ?_ (by rfl) ?_ ?_
                      rotate_left 1
                      · intro w hSw
                        go_simp
                        with_reducible rfl
                      try simp only [Act.put, List.setIfInBounds_toArray, List.set_cons_zero, List.set_cons_succ]
                      refine GoG.take 13 rfl (by kernel_rfl) (fun c a w h => h) (fun a => rfl) ?_ (by rfl) ?_ ?_
                      rotate_left 1
                      · intro w hSw
                        go_simp
                        with_reducible rfl
                      try simp only [Act.put, List.setIfInBounds_toArray, List.set_cons_zero, List.set_cons_succ]
                      refine GoG.take 14 rfl (by kernel_rfl) (fun c a w h => h) (fun a => rfl) ?_ (by rfl) ?_ ?_
                      rotate_left 1
                      · intro w hSw
                        go_simp
                        with_reducible rfl
                      try simp only [Act.put, List.setIfInBounds_toArray, List.set_cons_zero, List.set_cons_succ]
                      refine GoG.skip 15 rfl (by kernel_rfl) (fun c a w h => h) (fun a => rfl) (by rfl) ?_
                      try simp only [Act.put, List.setIfInBounds_toArray, List.set_cons_zero, List.set_cons_succ]
                      refine GoG.skip 16 rfl (by kernel_rfl) (fun c a w h => h) (fun a => rfl) (by rfl) ?_
                      try simp only [Act.put, List.setIfInBounds_toArray, List.set_cons_zero, List.set_cons_succ]
                      refine GoG.skip 17 rfl (by kernel_rfl) (fun c a w h => h) (fun a => rfl) (by rfl) ?_
                      try simp only [Act.put, List.setIfInBounds_toArray, List.set_cons_zero, List.set_cons_succ]
                      refine GoG.skip 18 rfl (by kernel_rfl) (fun c a w h => h) (fun a => rfl) (by rfl) ?_
                      try simp only [Act.put, List.setIfInBounds_toArray, List.set_cons_zero, List.set_cons_succ]
                      refine GoG.skip 19 rfl (by kernel_rfl) (fun c a w h => h) (fun a => rfl) (by rfl) ?_
                      try simp only [Act.put, List.setIfInBounds_toArray, List.set_cons_zero, List.set_cons_succ]
                      refine GoG.skip 20 rfl (by kernel_rfl) (fun c a w h => h) (fun a => rfl) (by rfl) ?_
                      try simp only [Act.put, List.setIfInBounds_toArray, List.set_cons_zero, List.set_cons_succ]
                      refine GoG.skip 21 rfl (by kernel_rfl) (fun c a w h => h) (fun a => rfl) (by rfl) ?_
                      try simp only [Act.put, List.setIfInBounds_toArray, List.set_cons_zero, List.set_cons_succ]
                      refine GoG.skip 22 rfl (by kernel_rfl) (fun c a w h => h) (fun a => rfl) (by rfl) ?_
                      try simp only [Act.put, List.setIfInBounds_toArray, List.set_cons_zero, List.set_cons_succ]
                      refine GoG.skip 23 rfl (by kernel_rfl) (fun c a w h => h) (fun a => rfl) (by rfl) ?_
                      try simp only [Act.put, List.setIfInBounds_toArray, List.set_cons_zero, List.set_cons_succ]
                      refine GoG.skip 24 rfl (by kernel_rfl) (fun c a w h => h) (fun a => rfl) (by rfl) ?_
                      try simp only [Act.put, List.setIfInBounds_toArray, List.set_cons_zero, List.set_cons_succ]
                      refine GoG.skip 25 rfl (by kernel_rfl) (fun c a w h => h) (fun a => rfl) (by rfl) ?_
                      try simp only [Act.put, List.setIfInBounds_toArray, List.set_cons_zero, List.set_cons_succ]
                      refine GoG.skip 26 rfl (by kernel_rfl) (fun c a w h => h) (fun a => rfl) (by rfl) ?_
                      try simp only [Act.put, List.setIfInBounds_toArray, List.set_cons_zero, List.set_cons_succ]
                      refine GoG.skip 27 rfl (by kernel_rfl) (fun c a w h => h) (fun a => rfl) (by rfl) ?_
                      try simp only [Act.put, List.setIfInBounds_toArray, List.set_cons_zero, List.set_cons_succ]
                      refine GoG.skip 28 rfl (by kernel_rfl) (fun c a w h => h) (fun a => rfl) (by rfl) ?_
                      try simp only [Act.put, List.setIfInBounds_toArray, List.set_cons_zero, List.set_cons_succ]
                      refine GoG.take 29 rfl (by kernel_rfl) (fun c a w h => h) (fun a => rfl) ?_ (by rfl) ?_ ?_
                      rotate_left 1
                      · intro w hSw
                        go_simp
                        with_reducible rfl
                      try simp only [Act.put, List.setIfInBounds_toArray, List.set_cons_zero, List.set_cons_succ]
                      refine GoG.take 30 rfl (by kernel_rfl) (fun c a w h => h) (fun a => rfl) ?_ (by rfl) ?_ ?_
                      rotate_left 1
                      · intro w hSw
                        go_simp
                        with_reducible rfl
                      try simp only [Act.put, List.setIfInBounds_toArray, List.set_cons_zero, List.set_cons_succ]
                      refine GoG.alone 31 rfl (by kernel_rfl) (fun K hK => ?_)
                      go_simp
                      refine hK _ _ (fun h => absurd (show true = false from h) (by decide)) ?_
                      clear hK K
                      try simp only [Act.put, List.setIfInBounds_toArray, List.set_cons_zero, List.set_cons_succ]
                      refine GoG.done (by kernel_rfl) ?_
                      refine NoPanic.normal ?_
                      go_wp2_with fail
                      go_roundg (m - (v + 1))
                      case measure => have := HGV.out; omega
                      case rel =>
                        refine ⟨v + 1, by omega, by go_num, rfl, ?_, ?_, ?_⟩
                        · have h := HST.out
                          simp only [List.getElem_set_self, List.set_set] at h
                          have h2 := HSX.out _ hcv hsv (by rfl)
                          rw [← h2]
                          exact (h _).drew
                        · have h : go[j] ∉ gi := fun h => (HG1.out _ h).1 (List.getElem_mem hgoj)
                          exact (HCI4.out.other ⟨go[j], v, none⟩ _ h).drew
                        · have h : go[j] ∈ gi ∨ go[j] ∈ go := .inr (List.getElem_mem hgoj)
                          exact (HFR4.out.setCell (p := ⟨go[j], v, none⟩) (fun _ => h) _).drew
                  · have hvm : v = m := by omega
                    have HFV : Bk (orTo v cur src = foldOr I (us.take (i + 1)) O[j]) := bk <| by
                      rw [HFT.out, hvm, ← HCL.out, orTo_all _ _ (by have := HCL.out; have := HSL.out; omega)]
                    go_wp2_with fail
                    go_roundg (us.length - (i + 1))
                    case measure => have := HGU.out; omega
                    case rel =>
                      refine ⟨i + 1, by omega, by go_num, rfl, ?_, HCI4.out, HFR4.out⟩
                      rw [← HFV.out]
                      exact HCO4.out
                -- done]
              · have hil : i = us.length := by omega
                have cx3 := (HXX5.out.fr HFR3.out NS1.out).cell
                have hl4 := (HXX5.out.fr HFR3.out NS1.out).lt
                have cb3 := (HBX6.out.fr HFR3.out NSB.out).cell
                have ch3 := fr_cell HFR3.out (HHO.out j hgoj) NSO.out
                obtain ⟨ga, oa, xA, xc, hA, hgw, hga, hxs, hxn, q1, q2, q3, q4, q5⟩ := ((HA.out.below HBW5.out).fr HFR3.out (fun x hx _ h => by have := HSZ.out _ h; have := HZ.out; omega)).blk j hj
                subst hA
                unfold hdr at ch3
                have HXS := bk hxs
                have hjl : j < (O.set j (foldOr I (us.take i) O[j])).length := by simp; exact hOj
                have hro := HCO3.out.2 j hjl hgoj
                simp only [List.getElem_set_self] at hro
                rw [hil, List.take_length] at hro
                have hfl := foldOr_length HWI2.out us (fun k hk => HUS.out k hk) O[j] HOL.out
                have HRO := bk hro; have HFL := bk hfl
                have hgoS := HSZ.out go[j] (.inr (List.getElem_mem hgoj))
                have HSB : Bk (stepB bs[j] j ⟨I, O, mo⟩ = ⟨I.set j (orRow I[j] (aheadB bs[j] (foldOr I us O[j]))), O.set j (foldOr I us O[j]), newIn I[j] (aheadB bs[j] (foldOr I us O[j])) || mo⟩) := bk <| by
                  have e1 : O.getD j [] = O[j] := by rw [List.getD_eq_getElem?_getD, List.getElem?_eq_getElem hOj]; rfl
                  have e2 : I.getD j [] = I[j] := by rw [List.getD_eq_getElem?_getD, List.getElem?_eq_getElem hIj]; rfl
                  have e3 : outOf bs[j] I O[j] = foldOr I us O[j] := by rw [← HUS'.out]; rfl
                  simp only [stepB, e1, e2, e3]
                generalize bs[j] = x at *
                clear hxs hro hfl
                go_upto_region 17 with fail
                refine wp_region_noPanic ?_
                refine wp_region_G [10, 11] (fun w' => ∀ a, w'.cell? a = wo3.cell? a) (by kernel_rfl) ?_
                refine GoG.take 0 rfl (by kernel_rfl) (fun c a w h => h) (fun a => rfl) ?_ (by rfl) ?_ ?_
                rotate_left 1
                · intro w hSw
                  go_simp
                  with_reducible rfl
                try simp only [Act.put, List.setIfInBounds_toArray, List.set_cons_zero, List.set_cons_succ]
                refine GoG.take 1 rfl (by kernel_rfl) (fun c a w h => h) (fun a => rfl) ?_ (by rfl) ?_ ?_
                rotate_left 1
                · intro w hSw
                  go_simp
                  with_reducible rfl
                try simp only [Act.put, List.setIfInBounds_toArray, List.set_cons_zero, List.set_cons_succ]
                refine GoG.take 2 rfl (by kernel_rfl) (fun c a w h => h) (fun a => rfl) ?_ (by rfl) ?_ ?_
                rotate_left 1
                · intro w hSw
                  go_simp
                  with_reducible rfl
                try simp only [Act.put, List.setIfInBounds_toArray, List.set_cons_zero, List.set_cons_succ]
                refine GoG.take 3 rfl (by kernel_rfl) (fun c a w h => h) (fun a => rfl) ?_ (by rfl) ?_ ?_
                rotate_left 1
                · intro w hSw
                  go_simp
                  with_reducible rfl
                try simp only [Act.put, List.setIfInBounds_toArray, List.set_cons_zero, List.set_cons_succ]
                refine GoG.take 4 rfl (by kernel_rfl) (fun c a w h => h) (fun a => rfl) ?_ (by rfl) ?_ ?_
                rotate_left 1
                · intro w hSw
                  go_simp
                  with_reducible rfl
                try simp only [Act.put, List.setIfInBounds_toArray, List.set_cons_zero, List.set_cons_succ]
                refine GoG.take 5 rfl (by kernel_rfl) (fun c a w h => h) (fun a => rfl) ?_ (by rfl) ?_ ?_
                rotate_left 1
                · intro w hSw
                  go_simp
                  with_reducible rfl
                try simp only [Act.put, List.setIfInBounds_toArray, List.set_cons_zero, List.set_cons_succ]
                refine GoG.take 6 rfl (by kernel_rfl) (fun c a w h => h) (fun a => rfl) ?_ (by rfl) ?_ ?_
                rotate_left 1
                · intro w hSw
                  go_simp
                  with_reducible rfl
                try simp only [Act.put, List.setIfInBounds_toArray, List.set_cons_zero, List.set_cons_succ]
                refine GoG.take 7 rfl (by kernel_rfl) (fun c a w h => h) (fun a => rfl) ?_ (by rfl) ?_ ?_
                rotate_left 1
                · intro w hSw
                  go_simp
                  with_reducible rfl
                try simp only [Act.put, List.setIfInBounds_toArray, List.set_cons_zero, List.set_cons_succ]
                refine GoG.take 8 rfl (by kernel_rfl) (fun c a w h => h) (fun a => rfl) ?_ (by rfl) ?_ ?_
                rotate_left 1
                · intro w hSw
                  go_simp
                  with_reducible rfl
                try simp only [Act.put, List.setIfInBounds_toArray, List.set_cons_zero, List.set_cons_succ]
                refine GoG.take 9 rfl (by kernel_rfl) (fun c a w h => h) (fun a => rfl) ?_ (by rfl) ?_ ?_
                rotate_left 1
                · intro w hSw
                  go_simp
                  with_reducible rfl
                try simp only [Act.put, List.setIfInBounds_toArray, List.set_cons_zero, List.set_cons_succ]
                refine GoG.alone 10 rfl (by kernel_rfl) (fun K hK => ?_)
                go_simp
                refine (ahead27 x _ _ (foldOr I us O[j]) (fun g => g = go[j]) _ wo3.drew HXS.out.drew (Sl.of_bx (ok := fun g => g = go[j]) _ m HRO.out.drew rfl rfl (by rw [HFL.out]; exact Nat.le_refl _) (by rw [HFL.out]; omega) (by rw [HFL.out])) (by rw [HFL.out]; exact HBJ.out) (by rw [HFL.out]; exact hm)).mono ?_
                rintro e W6 ⟨⟨vh, rfl, hown⟩, hb6⟩
                refine hK _ _ (fun h => absurd (show true = false from h) (by decide)) ?_
                clear hK K
                try simp only [Act.put, List.setIfInBounds_toArray, List.set_cons_zero, List.set_cons_succ]
                refine GoG.alone 11 rfl (by kernel_rfl) (fun K hK => ?_)
                go_simp
                refine hK _ _ (fun h => absurd (show true = false from h) (by decide)) ?_
                clear hK K
                try simp only [Act.put, List.setIfInBounds_toArray, List.set_cons_zero, List.set_cons_succ]
                refine GoG.done (by kernel_rfl) ?_
                refine NoPanic.normal ?_
                have hsn : Sl RB W6 (fun k => wo3.heap.size ≤ k) (aheadB x (foldOr I us O[j])) vh := hown.sl (fun k hk => (hown.lt k hk).1) (by rw [aheadB_length, HFL.out]; omega)
                obtain ⟨An3, cn3, rfl, hcn3, hnn3⟩ := hsn.form
                have hsl : (aheadB x (foldOr I us O[j])).length = m := by rw [aheadB_length, HFL.out]
                have HFR6 := bk (HFR3.out.trans (Fr.of_below (undrew hb6) (fun x => x ∈ gi ∨ x ∈ go)))
                have HCI6 := bk (HCI3.out.drew.below hb6)
                have HCO6 := bk (HCO3.out.drew.below hb6)
                have hs36 := (undrew hb6).size
                have HS6 : Bk (∀ x, x ∈ gi ∨ x ∈ go → x < wo3.heap.size) := bk <| by
                  rintro y (hy | hy)
                  · exact HCI3.out.lt y hy
                  · exact HCO3.out.lt y hy
                have HCO7 : Bk (Cel W6 go (O.set j (foldOr I us O[j]))) := bk <| by
                  have h := HCO6.out
                  rwa [hil, List.take_length] at h
                have hIjl : I[j].length = m := HWI2.out.get j hIj
                have HST0 : Bk (I.set j (orTo 0 I[j] (aheadB x (foldOr I us O[j]))) = I) := bk <| by rw [orTo_zero, List.set_getElem_self]
                have HSN := bk hsn
                have HL2 := bk hIjl; have HL3 := bk hsl
                generalize aheadB x (foldOr I us O[j]) = src at *
                generalize foldOr I us O[j] = ro at *
                generalize hcur : I[j] = cur at *
                clear hsn hown hb6 cx3 hl4 cb3 ch3 c11 hcur
                go_wp2_with fail
                go_loopg [6, 11] m (fun gv s6 s11 wr => ∃ v : Nat, v ≤ m ∧ s11 = .int .i64 v ∧ gv = m - v ∧ s6 = .bool (newTo v cur src || mo) ∧ Cel wr gi (I.set j (orTo v cur src)) ∧ Cel wr go (O.set j ro) ∧ Fr (fun x => x ∈ gi ∨ x ∈ go) W6 wr)
                case atStart =>
                  refine ⟨0, Nat.zero_le _, rfl, rfl, by rw [newTo_zero]; rfl, ?_, HCO7.out, Fr.refl _ _⟩
                  rw [HST0.out]
                  exact HCI6.out
                case round =>
                  obtain ⟨wo5, rfl⟩ : ∃ wo : World, wo = wr := ⟨_, rfl⟩
                  obtain ⟨v, hv, rfl, hgv, rfl, hcI5, hcO5, hfr5⟩ := hrel
                  have HCI5 := bk hcI5; have HCO5 := bk hcO5; have HFR5 := bk hfr5; have HGV := bk hgv
                  have HFR56 := bk (HFR6.out.trans hfr5)
                  have cx5 := (HXX5.out.fr HFR56.out NS1.out).cell
                  clear hcI5 hcO5 hfr5 hgv
                  by_cases hlv : v < m
                  · obtain ⟨gh, oh, hAh, hgh, hgh2, hch⟩ := HSN.out.one v (by rw [HL3.out]; exact hlv)
                    subst hAh
                    have NSH : Bk (¬ (gh ∈ gi ∨ gh ∈ go)) := bk <| fun h => by have := HS6.out _ h; omega
                    have ch5 := fr_cell HFR5.out hch NSH.out
                    have cb5 := (HBX6.out.fr HFR56.out NSB.out).cell
                    have ci5 := fr_cell HFR56.out (HHI.out j hgij) NSI.out
                    have hjI : j < (I.set j (orTo v cur src)).length := by simp; exact hIj
                    have hvl : v < (orTo v cur src).length := by rw [orTo_length, HL2.out]; exact hlv
                    have cc5 := HCI5.out.cell j v hjI hgij (by simpa using hvl)
                    have cf5 := HCI5.out.frozen j v hjI hgij
                    have hvc : v < cur.length := by rw [HL2.out]; exact hlv
                    have hvs : v < src.length := by rw [HL3.out]; exact hlv
                    simp only [List.getElem_set_self] at cc5
                    rw [orTo_get v cur src hvc hvl] at cc5
                    unfold hdr at ci5
                    have HST := bk (HCI5.out.set HND.out.1 j v hjI hgij)
                    have HSX : Bk ((orTo v cur src).set v (cur[v] || src[v]) = orTo (v + 1) cur src) := bk <| by
                      rw [orTo_succ v cur src (by rw [HL2.out, HL3.out]) hvc]
                    have HSE : Bk ((cur[v] || src[v]) = cur[v] → orTo v cur src = orTo (v + 1) cur src) := bk <| by
                      intro he
                      rw [← HSX.out, he, ← orTo_get v cur src hvc hvl, List.set_getElem_self]
                    have HNX : Bk (newTo (v + 1) cur src = (newTo v cur src || (src[v] && !cur[v]))) := bk <| newTo_succ v cur src (by rw [HL2.out, HL3.out]) hvc
                    generalize cur[v] = bo at *
                    generalize src[v] = bsr at *
                    generalize newTo v cur src = nv at *
                    clear hch
                    cases bsr
                    · go_wp2_with fail
                      go_roundg (m - (v + 1))
                      case measure => have := HGV.out; omega
                      case rel =>
                        refine ⟨v + 1, by omega, by go_num, rfl, ?_, ?_, ?_, ?_⟩
                        · rw [HNX.out]; simp
                        · rw [← HSE.out (by simp)]; exact HCI5.out
                        · exact HCO5.out
                        · exact HFR5.out
                    · cases bo
                      · go_wp2_with fail
                        go_roundg (m - (v + 1))
                        case measure => have := HGV.out; omega
                        case rel =>
                          refine ⟨v + 1, by omega, by go_num, rfl, ?_, ?_, ?_, ?_⟩
                          · rw [HNX.out]; simp
                          · have h := HST.out true
                            simp only [List.getElem_set_self, List.set_set] at h
                            have h2 := HSX.out
                            simp only [Bool.or_true] at h2
                            rw [← h2]
                            exact h
                          · exact HCO5.out.other ⟨gi[j], v, none⟩ _ (fun h => (HG1.out _ (List.getElem_mem hgij)).1 h)
                          · exact HFR5.out.setCell (p := ⟨gi[j], v, none⟩) (fun _ => .inl (List.getElem_mem hgij)) _
                      · go_wp2_with fail
                        go_roundg (m - (v + 1))
                        case measure => have := HGV.out; omega
                        case rel =>
                          refine ⟨v + 1, by omega, by go_num, rfl, ?_, ?_, ?_, ?_⟩
                          · rw [HNX.out]; simp
                          · rw [← HSE.out (by simp)]; exact HCI5.out
                          · exact HCO5.out
                          · exact HFR5.out
                  · have hvm : v = m := by omega
                    have HE1 : Bk (newTo v cur src = newIn cur src) := bk <| by rw [hvm, ← HL2.out]; exact newTo_all _ _ (by rw [HL2.out, HL3.out])
                    have HE2 : Bk (orTo v cur src = orRow cur src) := bk <| by rw [hvm, ← HL2.out]; exact orTo_all _ _ (by rw [HL2.out, HL3.out])
                    rw [HE1.out]
                    rw [HE2.out] at HCI5
                    go_wp2_with fail
                    go_roundg j
                    case measure => have := HGK.out; omega
                    case rel =>
                      refine ⟨(j : Int) - 1, by go_num, by omega, by omega, by omega, ?_, ?_, ?_, HFR56.out⟩
                      · rw [HD2.out, HDE.out, HSB.out]
                      · rw [HD2.out, HDE.out, HSB.out]; exact HCI5.out
                      · rw [HD2.out, HDE.out, HSB.out]; exact HCO5.out
          · have hzz : z = -1 := by omega
            have e0 : ((bs.length : Int) - 1 - z).toNat = bs.length := by omega
            rw [e0] at hcI hcO hdw ⊢
            have HCI2 := bk hcI; have HCO2 := bk hcO; have HFR2 := bk hfr; have HWI2 := bk hdw.1; have HWO2 := bk hdw.2
            have hlt := downTo_lt bs ⟨I1, O1, false⟩ bs.length rfl
            have HLV : Bk (liveGo bs I1 O1 = liveGo bs (noRows bs.length m) (noRows bs.length m)) := bk <| HLIVE.out.1 rfl
            have hun : liveGo bs I1 O1 = if (downTo bs ⟨I1, O1, false⟩ bs.length).more = true then liveGo bs (downTo bs ⟨I1, O1, false⟩ bs.length).I (downTo bs ⟨I1, O1, false⟩ bs.length).O else downTo bs ⟨I1, O1, false⟩ bs.length := by
              rw [liveGo]; rfl
            rw [HLV.out] at hun
            have HUN := bk hun; have HLT := bk hlt
            clear hcI hcO hfr hdw hlt hun hgk
            generalize downTo bs ⟨I1, O1, false⟩ bs.length = st at *
            obtain ⟨I2, O2, mo⟩ := st
            dsimp only at HCI2 HCO2 HWI2 HWO2 HUN HLT ⊢
            go_wp2_with fail
            cases mo with
            | true =>
              go_roundg (allFalses I2 + 1)
              case measure => have h1 := HGN.out; have h2 := HLT.out rfl; simp only [if_true] at h1; omega
              case rel =>
                exact ⟨I2, O2, true, rfl, rfl, HWI2.out, HWO2.out, HCI2.out, HCO2.out, HFR2.out, fun _ => by rw [HUN.out]; rfl, fun h => by cases h⟩
            | false =>
              go_roundg 0
              case measure => have h1 := HGN.out; simp only [if_true] at h1; omega
              case rel =>
                exact ⟨I2, O2, false, rfl, rfl, HWI2.out, HWO2.out, HCI2.out, HCO2.out, HFR2.out, (fun h => by cases h), (fun _ => by rw [HUN.out]; exact ⟨rfl, rfl⟩)⟩
end Go.Proofs.Ytiaojefhbhodiaa
