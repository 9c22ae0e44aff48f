/-
  A loop over an iterator that goes through a list from its end on: one law, whatever the list's kind.
-/
import Derived.Test.YtiaojefhbhodiaaApp
import Derived.RangeFuncNested
import Derived.RangeFuncBound
import Derived.RangeFuncLeaves
import Derived.Shelf.Abstract
import Derived.OwnWalkIn
import Derived.TacticsInMore
import Derived.LoopNIn
import Derived.LoopIn
set_option linter.unusedVariables false
namespace Go.Proofs.Ytiaojefhbhodiaa
open Go.RowKit Go.Shelf

/-- The first k of N - 1, N - 2, .. -/
def backTo (N : Nat) : Nat → List (Fin N)
  | 0 => []
  | k + 1 => if h : N - 1 - k < N then backTo N k ++ [⟨N - 1 - k, h⟩] else backTo N k
theorem backTo_succ (N k : Nat) (h : k < N) : backTo N (k + 1) = backTo N k ++ [⟨N - 1 - k, by omega⟩] := by
  rw [backTo, dif_pos (by omega)]
theorem backTo_length (N : Nat) : ∀ k, k ≤ N → (backTo N k).length = k
  | 0, _ => rfl
  | k + 1, h => by rw [backTo_succ N k (by omega), List.length_append, backTo_length N k (by omega)]; rfl

/-- Cells lie as they lay, and so does what is older. -/
structure Calm (n : Nat) (W W' : World) : Prop where
  size : W.heap.size ≤ W'.heap.size
  cells : ∀ (c : Nat) (cs : Array Value) (t : TypeId) (o : Nat × Nat), W.heap[c]? = some (.cells cs t o) → W'.heap[c]? = some (.cells cs t o)
  old : ∀ c, c < n → W'.heap[c]? = W.heap[c]?
theorem Bx.calm {n : Nat} {W W' : World} {b : Nat} {cs : Array Value} {t : TypeId} (h : Bx W b cs t) (hc : Calm n W W') : Bx W' b cs t := hc.cells b cs t _ h
theorem OwS.calm {α : Type} {enc : α → Value} {e : TypeId} {n : Nat} {W W' : World} {base : Nat} {xs : List α} {v : Value} (h : OwS enc e W base xs v) (hc : Calm n W W') : OwS enc e W' base xs v := by
  refine ⟨h.1, ?_⟩
  rcases h.2 with h0 | ⟨g, cap, cur, rfl, hg, hh, r⟩
  · exact .inl h0
  · exact .inr ⟨g, cap, cur, rfl, hg, hc.cells _ _ _ _ hh, r⟩

theorem OwS.any {α : Type} {enc : α → Value} {e : TypeId} {w : World} {base : Nat} {xs : List α} {v : Value} (h : OwS enc e w base xs v) : ∃ A c, v = .slice A xs.length c ∧ xs.length ≤ c := by
  rcases h.2 with ⟨rfl, h0⟩ | ⟨g, cap, cur, rfl, hg, hh, hc, _⟩
  · exact ⟨none, 0, by rw [h0], by omega⟩
  · exact ⟨_, cap, rfl, hc⟩

theorem calm_put {W : World} {D n : Nat} (hK : W.heap[D]? = some (.deferred (some []))) (hn : n ≤ D) : Calm n W (W.putObj D (.deferred none)) := by
  have hg := grownBy_putObj' W D (.deferred none)
  refine ⟨hg.size, fun c cs t o hc => (hg.block c (Array.getElem?_eq_some_iff.1 hc).1 (fun e => ?_)).trans hc, fun c hc => hg.block c ?_ (fun e => by cases e; omega)⟩
  · cases e; rw [hK] at hc; cases hc
  · have := (Array.getElem?_eq_some_iff.1 hK).1; omega
theorem below_put {W w : World} {D n : Nat} (hK : W.heap[D]? = some (.deferred (some []))) (hn : n ≤ D) (h : Below n w W) : Below n w (W.putObj D (.deferred none)) :=
  h.grown (grownBy_putObj' W D (.deferred none)) (by have := (Array.getElem?_eq_some_iff.1 hK).1; omega) (fun k e => by cases e; exact hn)

variable {P : Program}

theorem inr {l m : Nat} {f : FuncId} {args : Array Value} {w : World} {R : Ending → World → Prop} (h : Calls P f args w R) : CallsIn (Fence.wide.inRound l) m P f args w R := CallsIn.inRound l (callsIn_wide.2 h)

theorem backLoop {σ : Type} {g : Operand} {ps : Array Tmp} {assign body : Code} {Q : Exit → Act → World → Prop} {a : Act} {w : World} {gf bb N : Nat} {cs : Fin N → Array Value} {t : TypeId}
    (S : Nat → Prop) (hS : ∀ c, S c → c < w.heap.size)
    (hg : a.eval g = .func (.func gf) #[] #[.pointer (some ⟨bb, 0, none⟩)])
    (eg : ∀ args w, (callFunc gf args).run P w = .ok (.enter gf args) w)
    (hseq : SeqStopsK Fence.wide 9 P gf #[.pointer (some ⟨bb, 0, none⟩)] (fun i : Fin N => #[.int .i64 (i.1 : Int), .agg (cs i)]) (Fr (fun c => S c ∨ w.heap.size ≤ c)) (fun ys => ys = backTo N N) (fun _ => True) N w)
    (hps : ps.size = 2)
    (J : σ → World → Prop) (hJ : ∀ s W W', J s W → Calm w.heap.size W W' → J s W')
    (f : σ → Fin N → σ) (s0 : σ) (h0 : J s0 w) (upd : Fin N → Nat → List (Nat × Value))
    (hassign : ∀ (l : Nat) (i : Fin N) (W : World) (K : Act → World → Prop), K { tmps := (upd i W.heap.size).foldl (fun t p => t.setIfInBounds p.1 p.2) a.tmps, defers := [] } (W.alloc (.cells (cs i) t)) →
      assign.wpIn (Fence.wide.inRound l) 8 P (Exit.then K (fun _ _ _ => False)) { tmps := (ps.zip #[.int .i64 (i.1 : Int), .agg (cs i)]).foldl (fun t (p, v) => t.setIfInBounds p v) a.tmps, defers := [] } W)
    (hbody : ∀ (l : Nat) (s : σ) (i : Fin N) (W : World) (B : Nat), J s W → Fr S w W → w.heap.size ≤ B → Bx W B (cs i) t →
      body.wpIn (Fence.wide.inRound l) 8 P (Exit.then (fun _ W' => Fr S W W' ∧ J (f s i) W') (fun _ _ _ => False)) { tmps := (upd i B).foldl (fun t p => t.setIfInBounds p.1 p.2) a.tmps, defers := [] } W)
    (hdone : ∀ (D : Nat) (W : World), w.heap.size ≤ D → J ((backTo N N).foldl f s0) W → Fr S w W → W.heap[D]? = some (.deferred (some [])) → Q .normal { a with defers := { target := .collected D, args := #[] } :: a.defers } W) :
    (Code.rangeFunc g ps assign body).wp P Q a w := by
  have hkf : ∀ {W W' : World}, Fr S W W' → KeepsFrom w.heap.size W W' := fun {W W'} h =>
    ⟨h.size, fun k o hB hk _ => (h.block k (Array.getElem?_eq_some_iff.1 hk).1 (fun e => by have := hS k e; omega)).trans hk⟩
  have hcalm : ∀ {W W' : World} {row : Option Nat}, w.heap.size ≤ W.heap.size → W.grownBy W' row → (∀ r, row = some r → w.heap.size ≤ r ∧ ∃ o : Obj, W.heap[r]? = some o ∧ o.isCells = false) → Calm w.heap.size W W' := fun {W W' row} hs hg hr => by
    refine ⟨hg.size, fun c cs t o hc => ?_, fun c hc => hg.block c (by omega) (fun e => by have := (hr c e.symm).1; omega)⟩
    refine (hg.block c (Array.getElem?_eq_some_iff.1 hc).1 (fun e => ?_)).trans hc
    obtain ⟨_, o', h1, h2⟩ := hr c e.symm
    rw [hc] at h1
    cases h1
    cases h2
  refine (wpIn_wide (n := 10)).1 (wpIn_rangeFunc_ownH (F := Fence.wide) rfl (by omega) hg trivial eg hseq (fun h k => h.trans k) ?_ (Below.refl _ _) (fun _ => by simp [hps])
    (fun pre W => J (pre.foldl f s0) W ∧ Fr S w W) (fun _ _ _ => False) ?_ (fun _ _ _ _ _ hs _ _ => hs) ⟨h0, Fr.refl _ _⟩ (fun i a' W => ∃ B, w.heap.size ≤ B ∧ Bx W B (cs i) t ∧ a' = { tmps := (upd i B).foldl (fun t p => t.setIfInBounds p.1 p.2) a.tmps, defers := [] }) ?_ ?_ ?_ ?_ ?_)
  · intro W l o o' hl h _ _
    exact (Fr.refl _ W).grown (grownBy_putObj' W l o') (fun k e hk => by cases e; exact .inr hl)
  · rintro s W W' row ⟨h1, h2⟩ hg hr
    exact ⟨hJ _ _ _ h1 (hcalm h2.size hg hr), h2.grown hg (fun k e hk => by have := (hr k e).1; omega)⟩
  · rintro i a' _ W W' row ⟨B, hB, hb, ha⟩ hg hr
    refine ⟨B, hB, hb.keep (hg.block B hb.lt (fun e => ?_)), ha⟩
    obtain ⟨_, o', h1, h2⟩ := hr B e.symm
    rw [show W.heap[B]? = _ from hb] at h1
    cases h1
    cases h2
  · rintro l pre i W K ⟨h1, h2⟩ hK
    refine hassign l i W K (hK _ _ ((KeepsOthers.alloc _ _).from _) ((Fr.refl _ W).alloc _) ⟨hJ _ _ _ h1 ⟨by simp, fun c cs t o hc => ?_, fun c hc => ?_⟩, h2.alloc _⟩ ⟨W.heap.size, h2.size, Bx.new _ _ _, rfl⟩)
    · exact (Below.heap_alloc W _ c (Array.getElem?_eq_some_iff.1 hc).1).trans hc
    · exact Below.heap_alloc W _ c (Nat.lt_of_lt_of_le hc h2.size)
  · rintro l pre i a' W _ _ ⟨h1, h2⟩ ⟨B, hB, hb, rfl⟩ _
    refine wpIn_mono (hbody l _ i W B h1 h2 hB hb) ?_
    rintro e a2 W2 hq
    cases e with
    | normal =>
      obtain ⟨h3, h4⟩ := hq
      exact ⟨hkf h3, h3.mono (fun _ _ h => .inl h), by rw [List.foldl_append]; exact h4, h2.trans h3⟩
    | _ => exact hq.elim
  · rintro D ys W hD rfl ⟨h1, h2⟩ hK
    exact hdone D W hD h1 h2 hK
  · rintro D c pre W _ _ h _
    exact h.elim
end Go.Proofs.Ytiaojefhbhodiaa
