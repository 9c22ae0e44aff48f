/-
  Walk: (set).add: all of another one, in place; was there anything new?
-/
import Derived.Test.YtiaojefhbhodiaaW10
import Derived.Test.YtiaojefhbhodiaaW12
set_option linter.unusedVariables false
namespace Go.Proofs.Ytiaojefhbhodiaa
open Go.RowKit

set_option maxRecDepth 100000 in
set_option maxHeartbeats 2000000 in
theorem addL (g m : Nat) (a b : List Bool) (vt : Value) (ok : Nat → Prop) (w : World) (hg : Bx w g (a.map Value.bool).toArray 4) (ha : a.length = m) (ht : Sl RB w ok b vt) (hb : b.length = m) (hok : ∀ c, ok c → c ≠ g) (hm : m ≤ 1000000) :
    Calls Try.prog 47 #[hdr m g, vt] w
    fun e w' => e = .returned (.bool (newIn a b)) ∧ Bx w' g ((orRow a b).map Value.bool).toArray 4 ∧ Fr (fun c => c = g) w w' := by
  obtain ⟨A, c, rfl, hc, hn⟩ := ht.form
  have HT := Lib.hid ht; have HG := Lib.hid hg; have HOK := Lib.hid hok; have HA := Lib.hid ha; have HB := Lib.hid hb
  have hbl : b.length ≤ 1000000 := by omega
  clear ht hg hok ha hb
  unfold hdr
  go_enter Try.func47, Try.ntmps47
  go_wp2_with fail
  go_loopw [5, 10] (fun mo i wr => ∃ k : Nat, k ≤ m ∧ i = .int .i64 k ∧ mo = .bool (newTo k a b) ∧ Bx wr g ((orTo k a b).map Value.bool).toArray 4 ∧ Fr (fun c => c = g) w wr) (fun _ i _ => m - (intOf i).toNat)
  case atStart => exact ⟨0, Nat.zero_le _, rfl, by rw [newTo_zero], by rw [orTo_zero]; exact HG.out, Fr.refl _ _⟩
  case round =>
    obtain ⟨k, hk, rfl, rfl, hbx, hfr⟩ := hrel
    have HBX := Lib.hid hbx; have HFR := Lib.hid hfr
    clear hbx hfr
    by_cases hlt : k < m
    · have hka : k < a.length := by rw [HA.out]; exact hlt
      have hkb : k < b.length := by rw [HB.out]; exact hlt
      obtain ⟨gt, ot, hAt, hgt, hgt2, hct⟩ := HT.out.one k hkb
      subst hAt
      have hne := HOK.out gt hgt
      have ct := HFR.out.cells gt (ot + k) hgt2 hne
      rw [hct] at ct
      have cg := HBX.out.cell k
      have hol : k < (orTo k a b).length := by rw [orTo_length]; exact hka
      simp only [List.getElem?_toArray, List.getElem?_map, List.getElem?_eq_getElem hol, Option.map_some, orTo_get k a b hka hol] at cg
      have fg := HBX.out.frozen k
      have HST := Lib.hid (HBX.out.set k (.bool true))
      have HOR : Hid (orTo (k + 1) a b = (orTo k a b).set k (a[k] || b[k])) := orTo_succ k a b (by rw [HA.out, HB.out]) hka
      have HNX : Hid (newTo (k + 1) a b = (newTo k a b || (b[k] && !a[k]))) := newTo_succ k a b (by rw [HA.out, HB.out]) hka
      have HSE : Hid ((orTo k a b).set k a[k] = orTo k a b) := by
        show _ = _
        conv => lhs; rw [← orTo_get k a b hka hol]
        exact List.set_getElem_self _
      generalize a[k] = bo at *
      generalize b[k] = bt at *
      generalize newTo k a b = nv at *
      clear hct
      cases bt
      · go_wp2_with fail
        go_roundw
        case rel => exact ⟨k + 1, by omega, by go_num, by rw [HNX.out]; simp, by rw [HOR.out, Bool.or_false, HSE.out]; exact HBX.out, HFR.out⟩
        case measure => simp [intOf]; omega
      · cases bo
        · go_wp2_with fail
          go_roundw
          case rel =>
            refine ⟨k + 1, by omega, by go_num, by rw [HNX.out]; simp, ?_, HFR.out.setCell (p := ⟨g, k, none⟩) (fun _ => rfl) _⟩
            have h := HST.out
            rw [HOR.out, Bool.or_true, List.map_set]
            simpa using h
          case measure => simp [intOf]; omega
        · go_wp2_with fail
          go_roundw
          case rel => exact ⟨k + 1, by omega, by go_num, by rw [HNX.out]; simp, by rw [HOR.out, Bool.or_true, HSE.out]; exact HBX.out, HFR.out⟩
          case measure => simp [intOf]; omega
    · have hkm : k = m := by omega
      have e1 : newTo k a b = newIn a b := by rw [hkm, ← HA.out]; exact newTo_all _ _ (by rw [HA.out, HB.out])
      have e2 : orTo k a b = orRow a b := by rw [hkm, ← HA.out]; exact orTo_all _ _ (by rw [HA.out, HB.out])
      have hkb : b.length ≤ k := by rw [HB.out]; omega
      go_wp2_with fail
      go_ret
      rw [e2] at HBX
      exact ⟨ret_bool e1, HBX.out, HFR.out⟩
end Go.Proofs.Ytiaojefhbhodiaa
