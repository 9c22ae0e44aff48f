/-
  Walks: what matters, the least.
-/
import Derived.Test.YtiaojefhbhodiaaMdl
import Derived.Deep.RegionHeld3
set_option linter.unusedVariables false
namespace Go.Proofs.Ytiaojefhbhodiaa
open Go.RowKit

theorem Cel.cell {w : World} {gs : List Nat} {rows : Rows} (h : Cel w gs rows) (i j : Nat) (hi : i < rows.length) (hi' : i < gs.length) (hj : j < rows[i].length) : w.cell? ⟨gs[i], j, none⟩ = some (.bool rows[i][j]) := by
  rw [(h.2 i hi hi').cell j]
  simp [hj]
theorem Cel.frozen {w : World} {gs : List Nat} {rows : Rows} (h : Cel w gs rows) (i j : Nat) (hi : i < rows.length) (hi' : i < gs.length) : w.frozen? ⟨gs[i], j, none⟩ = false := (h.2 i hi hi').frozen j
theorem Cel.set {w : World} {gs : List Nat} {rows : Rows} (h : Cel w gs rows) (hn : gs.Nodup) (i j : Nat) (hi : i < rows.length) (hi' : i < gs.length) (x : Bool) :
    Cel (w.setCell ⟨gs[i], j, none⟩ (.bool x)) gs (rows.set i (rows[i].set j x)) := by
  refine ⟨by simp [h.1], fun k h1 h2 => ?_⟩
  simp only [List.length_set] at h1
  by_cases e : k = i
  · subst e
    have := (h.2 k hi hi').set j (.bool x)
    simp only [List.getElem_set_self, List.map_set]
    simpa using this
  · rw [List.getElem_set_ne (by omega)]
    refine (h.2 k h1 h2).other _ _ ?_
    intro e2
    exact e ((List.getElem_inj hn).1 e2)
theorem Cel.other {w : World} {gs : List Nat} {rows : Rows} (h : Cel w gs rows) (p : Addr) (v : Value) (hb : p.block ∉ gs) : Cel (w.setCell p v) gs rows :=
  ⟨h.1, fun k h1 h2 => (h.2 k h1 h2).other _ _ (fun e => hb (by rw [← e]; exact List.getElem_mem h2))⟩
theorem Cel.drew {w : World} {gs : List Nat} {rows : Rows} (h : Cel w gs rows) : Cel w.drew gs rows := h
theorem Cel.drewN {w : World} {gs : List Nat} {rows : Rows} (h : Cel w gs rows) (n : Nat) : Cel (w.drewN n) gs rows := h

/-- The first n are or'd. -/
def orTo : Nat → List Bool → List Bool → List Bool
  | 0, a, _ => a
  | _ + 1, [], _ => []
  | _ + 1, a, [] => a
  | n + 1, x :: a, y :: b => (x || y) :: orTo n a b
theorem orRow_length (a b : List Bool) (h : a.length = b.length) : (orRow a b).length = a.length := by simp [orRow, h]
theorem orTo_length (n : Nat) : ∀ (a b : List Bool), (orTo n a b).length = a.length := by
  induction n with
  | zero => intro a b; rfl
  | succ n ih =>
    intro a b
    cases a with
    | nil => rfl
    | cons x a => cases b with
      | nil => rfl
      | cons y b => simp [orTo, ih]
theorem orTo_zero (a b : List Bool) : orTo 0 a b = a := rfl
theorem orTo_all (a : List Bool) : ∀ (b : List Bool), a.length = b.length → orTo a.length a b = orRow a b := by
  induction a with
  | nil => intro b h; simp [orTo, orRow]
  | cons x a ih =>
    intro b h
    cases b with
    | nil => simp at h
    | cons y b =>
      have := ih b (by simpa using h)
      simp only [List.length_cons, orTo, this]
      simp [orRow]
theorem orTo_get (n : Nat) : ∀ (a b : List Bool) (hn : n < a.length) (hn' : n < (orTo n a b).length), (orTo n a b)[n] = a[n] := by
  induction n with
  | zero => intro a b h h'; simp [orTo_zero]
  | succ n ih =>
    intro a b h h'
    cases a with
    | nil => simp at h
    | cons x a => cases b with
      | nil => simp [orTo]
      | cons y b => simp only [orTo, List.getElem_cons_succ]; exact ih a b (by simpa using h) _
theorem orTo_succ (n : Nat) : ∀ (a b : List Bool) (h : a.length = b.length) (hn : n < a.length), orTo (n + 1) a b = (orTo n a b).set n (a[n] || b[n]'(by omega)) := by
  induction n with
  | zero =>
    intro a b h hn
    cases a with
    | nil => simp at hn
    | cons x a => cases b with
      | nil => simp at h
      | cons y b => simp [orTo]
  | succ n ih =>
    intro a b h hn
    cases a with
    | nil => simp at hn
    | cons x a => cases b with
      | nil => simp at h
      | cons y b =>
        have := ih a b (by simpa using h) (by simpa using hn)
        simp only [orTo] at this ⊢
        rw [this]
        simp
def newTo (n : Nat) (a b : List Bool) : Bool := newIn (a.take n) (b.take n)
theorem newTo_zero (a b : List Bool) : newTo 0 a b = false := by simp [newTo, newIn]
theorem newTo_all (a b : List Bool) (h : a.length = b.length) : newTo a.length a b = newIn a b := by unfold newTo; rw [List.take_length, h, List.take_length]
theorem newTo_succ (n : Nat) (a b : List Bool) (h : a.length = b.length) (hn : n < a.length) : newTo (n + 1) a b = (newTo n a b || (b[n]'(by omega) && !a[n])) := by
  unfold newTo newIn
  rw [List.take_succ_eq_append_getElem hn, List.take_succ_eq_append_getElem (by omega : n < b.length), List.zipWith_append (by simp; omega)]
  simp

end Go.Proofs.Ytiaojefhbhodiaa
