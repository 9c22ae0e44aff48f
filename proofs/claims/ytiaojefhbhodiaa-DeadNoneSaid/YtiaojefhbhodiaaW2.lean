/-
  Walks: comparisons of lists, blocks, functions.
-/
import Derived.Test.YtiaojefhbhodiaaW1
set_option linter.unusedVariables false
namespace Go.Proofs.Ytiaojefhbhodiaa
open Go.RowKit

/-- Has the second one all that the first one has? -/
def subB (a b : List Bool) : Bool := decide (∀ i, i < a.length → a.getD i false = true → b.getD i false = true)

set_option maxHeartbeats 1000000 in
theorem within27 (a b : List Bool) (va vb : Value) (ok ok' : Nat → Prop) (w : World) (ha : Sl RB w ok a va) (hb : Sl RB w ok' b vb) (hl : a.length = b.length) :
    Calls Try.prog 30 #[va, vb] w fun e w' => e = .returned (.bool (subB a b)) ∧ w = w' := by
  obtain ⟨A, ca, rfl, hca, hna⟩ := ha.form
  obtain ⟨B, cb, rfl, hcb, hnb⟩ := hb.form
  have HA := Lib.hid ha; clear ha
  have HB := Lib.hid hb; clear hb
  have HL := Lib.hid hl; clear hl
  go_enter Try.func30, Try.ntmps30
  go_wp2
  go_loop [5] (fun i => ∃ k : Nat, k ≤ a.length ∧ i = .int .i64 k ∧ Hid (∀ j, j < k → a.getD j false = true → b.getD j false = true)) (fun i => a.length - (intOf i).toNat)
  case atStart => exact ⟨0, Nat.zero_le _, rfl, fun j hj => absurd hj (Nat.not_lt_zero _)⟩
  case round =>
    obtain ⟨k, hk, rfl, hall⟩ := hrel
    by_cases hlt : k < a.length
    · obtain ⟨ga, oa, rfl, _, hga, hxa⟩ := HA.out.one k hlt
      obtain ⟨gb, ob, rfl, _, hgb, hxb⟩ := HB.out.one k (by have := HL.out; omega)
      have hltb : k < b.length := by have := HL.out; omega
      have e1 : a.getD k false = a[k] := by simp [hlt]
      have e2 : b.getD k false = b[k] := by simp [hltb]
      have E1 := Lib.hid e1; clear e1
      have E2 := Lib.hid e2; clear e2
      generalize a[k] = x at *
      generalize b[k] = y at *
      cases x <;> cases y
      case true.false =>
        go_wp2
        go_ret
        refine ⟨ret_bool ?_, rfl⟩
        symm
        simp only [subB, decide_eq_false_iff_not]
        intro h
        have := h k hlt E1.out
        rw [E2.out] at this
        cases this
      all_goals
        go_wp2
        go_round
        case rel =>
          refine ⟨k + 1, by omega, by go_num, fun j hj => ?_⟩
          by_cases e : j = k
          · subst e
            rw [E1.out, E2.out]
            simp
          · exact hall j (by omega)
        case measure => simp [intOf]; omega
    · go_wp2
      go_ret
      refine ⟨ret_bool ?_, rfl⟩
      have : k = a.length := by omega
      subst this
      symm
      simp only [subB, decide_eq_true_eq]
      exact hall

theorem within27' (r : Bool) (a b : List Bool) (va vb : Value) (ok ok' : Nat → Prop) (w : World) (ha : Sl RB w ok a va) (hb : Sl RB w ok' b vb) (hl : a.length = b.length) (hr : subB a b = r) :
    Calls Try.prog 30 #[va, vb] w fun e w' => e = .returned (.bool r) ∧ w' = w :=
  (within27 a b va vb ok ok' w ha hb hl).mono fun e w' h => by obtain ⟨rfl, rfl⟩ := h; rw [hr]; exact ⟨rfl, rfl⟩

/-- The same rows? -/
def rowsB (a b : List (List Bool)) : Bool := decide (a = b)

theorem subB_both {a b : List Bool} (hl : a.length = b.length) (h1 : subB a b = true) (h2 : subB b a = true) : a = b := by
  simp only [subB, decide_eq_true_eq] at h1 h2
  apply List.ext_getElem hl
  intro i ha hb
  have e1 := h1 i ha
  have e2 := h2 i hb
  simp only [List.getD_eq_getElem?_getD, List.getElem?_eq_getElem ha, List.getElem?_eq_getElem hb, Option.getD_some] at e1 e2
  cases h3 : a[i] <;> cases h4 : b[i] <;> simp_all
theorem subB_self (a : List Bool) : subB a a = true := by simp [subB]

set_option maxHeartbeats 2000000 in
theorem rows27 (a b : List (List Bool)) (va vb : Value) (ok ok' : Nat → Prop) (w : World) (ha : Sl (.slice RB) w ok a va) (hb : Sl (.slice RB) w ok' b vb) :
    Calls Try.prog 17 #[va, vb] w fun e w' => e = .returned (.bool (rowsB a b)) ∧ Below w.heap.size w w' := by
  obtain ⟨A, ca, rfl, hca, hna⟩ := ha.form
  obtain ⟨B, cb, rfl, hcb, hnb⟩ := hb.form
  have HA := Lib.hid ha; clear ha
  have HB := Lib.hid hb; clear hb
  by_cases hl : a.length = b.length
  · have HL := Lib.hid hl
    have hl' : ((a.length : Int) != b.length) = false := by simp [hl]
    clear hl
    go_enter Try.func17, Try.ntmps17
    go_wp2
    go_loopw [5] (fun i wr => ∃ k : Nat, k ≤ a.length ∧ i = .int .i64 k ∧ Hid (∀ j, j < k → a[j]? = b[j]?) ∧ Below w.heap.size w wr) (fun i _ => a.length - (intOf i).toNat)
    case atStart => exact ⟨0, Nat.zero_le _, rfl, fun j hj => absurd hj (Nat.not_lt_zero _), Below.refl _ _⟩
    case round =>
      obtain ⟨k, hk, rfl, hall, hb⟩ := hrel
      by_cases hlt : k < a.length
      · have hltb : k < b.length := by have := HL.out; omega
        obtain ⟨ga, oa, xA, xc, rfl, _, hga, hxs, hxn, hxa⟩ := (HA.out.below hb).row k hlt
        obtain ⟨gb, ob, yA, yc, rfl, _, hgb, hys, hyn, hya⟩ := (HB.out.below hb).row k hltb
        have E : Hid (∀ x y, a[k] = x → b[k] = y → x = y → ∀ j, j < k + 1 → a[j]? = b[j]?) := by
          intro x y hx hy hxy j hj
          by_cases e : j = k
          · subst e
            rw [List.getElem?_eq_getElem hlt, List.getElem?_eq_getElem hltb, hx, hy, hxy]
          · exact hall j (by omega)
        have E' : Hid (∀ x y, a[k] = x → b[k] = y → x ≠ y → rowsB a b = false) := by
          intro x y hx hy hxy
          simp only [rowsB, decide_eq_false_iff_not]
          intro e
          subst e
          exact hxy (hx.symm.trans hy)
        have Exy := E.out _ _ rfl rfl
        have Exy' := E'.out _ _ rfl rfl
        clear E E'
        generalize a[k] = x at *
        generalize b[k] = y at *
        have Exy := Lib.hid Exy
        have Exy' := Lib.hid Exy'
        have HX := Lib.hid hxs; clear hxs
        have HY := Lib.hid hys; clear hys
        have hB := Lib.hid hb; clear hb
        by_cases hl1 : x.length = y.length
        · have HL1 := Lib.hid hl1
          have hl1' : ((x.length : Int) != y.length) = false := by simp [hl1]
          clear hl1
          rcases h1 : subB x y with _ | _
          · have NE : x ≠ y := by intro e; subst e; rw [subB_self] at h1; cases h1
            go_wp2
            go_quiet ((go_at_call 30; exact Calls.quiet_of_same (within27' false x y _ _ _ _ _ HX.out HY.out HL1.out h1)))
            go_wp2
            go_ret
            exact ⟨ret_bool (Exy'.out NE).symm, below_drewN hB.out _⟩
          · rcases h2 : subB y x with _ | _
            · have NE : x ≠ y := by intro e; subst e; rw [subB_self] at h2; cases h2
              go_wp2
              go_quiet ((go_at_call 30; first | exact Calls.quiet_of_same (within27' true x y _ _ _ _ _ HX.out HY.out HL1.out h1) | exact Calls.quiet_of_same (within27' false y x _ _ _ _ _ HY.out HX.out HL1.out.symm h2)))
              go_wp2
              go_ret
              exact ⟨ret_bool (Exy'.out NE).symm, below_drewN hB.out _⟩
            · have EE := Exy.out (subB_both HL1.out h1 h2)
              go_wp2
              go_quiet ((go_at_call 30; first | exact Calls.quiet_of_same (within27' true x y _ _ _ _ _ HX.out HY.out HL1.out h1) | exact Calls.quiet_of_same (within27' true y x _ _ _ _ _ HY.out HX.out HL1.out.symm h2)))
              go_wp2
              go_roundw
              case rel => exact ⟨k + 1, by omega, by go_num, EE, below_drewN hB.out _⟩
              case measure => simp [intOf]; omega
        · have NE : x ≠ y := by intro e; subst e; exact hl1 rfl
          have hl1' : ((x.length : Int) != y.length) = true := by simp; omega
          clear hl1
          go_wp2
          go_quiet (fail)
          go_wp2
          go_ret
          exact ⟨ret_bool (Exy'.out NE).symm, below_drewN hB.out _⟩
      · go_wp2
        go_ret
        refine ⟨ret_bool ?_, hb⟩
        symm
        simp only [rowsB, decide_eq_true_eq]
        apply List.ext_getElem? 
        intro i
        by_cases hi : i < k
        · exact hall i hi
        · rw [List.getElem?_eq_none (by omega), List.getElem?_eq_none (by have := HL.out; omega)]
  · have NE : rowsB a b = false := by simp only [rowsB, decide_eq_false_iff_not]; intro e; subst e; exact hl rfl
    have hl' : ((a.length : Int) != b.length) = true := by simp; omega
    clear hl
    go_enter Try.func17, Try.ntmps17
    go_wp2
    go_ret
    exact ⟨ret_bool NE.symm, Below.refl _ _⟩
end Go.Proofs.Ytiaojefhbhodiaa
