/-
  Rows of scalars of the call's own: they read, they are written in place, they are appended to.
-/
import Derived.Test.YtiaojefhbhodiaaRep
import Derived.Laws.MakeOwn
set_option linter.unusedVariables false
namespace Go.Proofs.Ytiaojefhbhodiaa
open Go.RowKit

/-- A fact that the walk does not see at all. -/
structure Bk (p : Prop) : Type where
  out : p
def bk {p : Prop} (h : p) : Bk p := ⟨h⟩

/-- Here the walk stands. -/
structure Stp (p : Prop) : Prop where
  out : p

theorem Fr.to_below {S : Nat → Prop} {B : Nat} {w w' : World} (h : Fr S w w') (hB : ∀ b, S b → B ≤ b) (hs : B ≤ w.heap.size) : Below B w w' :=
  ⟨h.os, h.tape, h.output, h.size, fun k hk => h.block k (by omega) (fun hS => by have := hB k hS; omega)⟩

theorem name_world_calls {P : Program} {f : FuncId} {args : Array Value} {R : Ending → World → Prop} {w : World} (h : ∀ W, W = w → Calls P f args W R) : Calls P f args w R := h w rfl

/-- v is a slice of scalars of the call's own, in block base or beyond. -/
def OwS {α : Type} (enc : α → Value) (e : TypeId) (w : World) (base : Nat) (xs : List α) (v : Value) : Prop := w.ownsRow base e 1 v xs.length (xs.map enc)

section
variable {α : Type} {enc : α → Value} {h1 : ∀ x, (enc x).oneCell' = true} {e : TypeId} {w w' : World} {base : Nat} {xs : List α} {v : Value}

theorem OwS.lt (h : OwS enc e w base xs v) : ∀ k, v.ownBlock = some k → base ≤ k ∧ k < w.heap.size := World.ownsRow.lt h
theorem OwS.keep (h : OwS enc e w base xs v) (hk : ∀ b, v.ownBlock = some b → w'.heap[b]? = w.heap[b]?) : OwS enc e w' base xs v := by
  refine ⟨h.1, ?_⟩
  rcases h.2 with h0 | ⟨g, cap, cur, rfl, hg, hh, r⟩
  · exact .inl h0
  · exact .inr ⟨g, cap, cur, rfl, hg, (hk g rfl).trans hh, r⟩
theorem OwS.below (h : OwS enc e w base xs v) (hb : Below w.heap.size w w') : OwS enc e w' base xs v := h.keep fun b hb' => hb.block b (h.lt b hb').2
theorem OwS.fr {S : Nat → Prop} (h : OwS enc e w base xs v) (hf : Fr S w w') (hn : ∀ b, v.ownBlock = some b → ¬ S b) : OwS enc e w' base xs v := h.keep fun b hb => hf.block b (h.lt b hb).2 (hn b hb)
theorem OwS.rebase {base' : Nat} (h : OwS enc e w base xs v) (hb : ∀ k, v.ownBlock = some k → base' ≤ k) : OwS enc e w base' xs v := by
  refine ⟨h.1, ?_⟩
  rcases h.2 with h0 | ⟨g, cap, cur, rfl, hg, r⟩
  · exact .inl h0
  · exact .inr ⟨g, cap, cur, rfl, hb g rfl, r⟩
/-- The form of what has an element. -/
theorem OwS.form (h : OwS enc e w base xs v) (hp : v ≠ .slice none 0 0) : ∃ g cap, v = .slice (some ⟨g, 0, none⟩) xs.length cap ∧ base ≤ g ∧ g < w.heap.size ∧ xs.length ≤ cap := by
  rcases h.2 with ⟨rfl, _⟩ | ⟨g, cap, cur, rfl, hg, hh, hc, _⟩
  · exact absurd rfl hp
  · exact ⟨g, cap, rfl, hg, (Array.getElem?_eq_some_iff.1 hh).1, hc⟩
theorem OwS.form' (h : OwS enc e w base xs v) (hp : 0 < xs.length) : ∃ g cap, v = .slice (some ⟨g, 0, none⟩) xs.length cap ∧ base ≤ g ∧ g < w.heap.size ∧ xs.length ≤ cap := by
  refine h.form ?_
  rintro rfl
  rcases h.2 with ⟨_, h0⟩ | ⟨g, cap, cur, hv, _⟩
  · omega
  · cases hv
theorem OwS.cell {g cap : Nat} (h : OwS enc e w base xs (.slice (some ⟨g, 0, none⟩) xs.length cap)) (i : Nat) (hi : i < xs.length) : w.cell? ⟨g, i, none⟩ = some (enc xs[i]) := by
  have := World.ownsRow.cells h (g := g) rfl i (enc xs[i]) (by simp [hi])
  have hadd : (⟨g, 0, none⟩ : Addr).add i = ⟨g, i, none⟩ := by unfold Addr.add; split <;> simp_all
  rwa [hadd] at this
theorem OwS.frozen {g n cap : Nat} (h : OwS enc e w base xs (.slice (some ⟨g, 0, none⟩) n cap)) (i : Nat) : w.frozen? ⟨g, i, none⟩ = false := by
  rcases h.2 with ⟨hv, _⟩ | ⟨g', cap', cur, hv, hg, hh, _⟩
  · cases hv
  · cases hv
    simp [World.frozen?, hh]
theorem OwS.set {g n cap : Nat} (h : OwS enc e w base xs (.slice (some ⟨g, 0, none⟩) n cap)) (i : Nat) (x : α) : OwS enc e (w.setCell ⟨g, i, none⟩ (enc x)) base (xs.set i x) (.slice (some ⟨g, 0, none⟩) n cap) := by
  refine ⟨by simp, ?_⟩
  rcases h.2 with ⟨hv, _⟩ | ⟨g', cap', cur, hv, hg, hh, hc, hm, hs, ht⟩
  · cases hv
  · cases hv
    refine .inr ⟨g, cap, cur.setIfInBounds i (enc x), by simp, hg, ?_, by simpa using hc, hm, by simpa using hs, ?_⟩
    · simp [World.setCell, Array.getElem?_modify, hh]
    · rw [List.map_set, ← ht]
      simp [List.take_set]
theorem OwS.sl (h : OwS enc e w base xs v) {ok : Nat → Prop} (hok : ∀ k, v.ownBlock = some k → ok k) (hn : xs.length ≤ 140737488355328) : Sl (Rep.scalar enc h1) w ok xs v := by
  rcases h.2 with ⟨rfl, h0⟩ | ⟨g, cap, cur, rfl, hg, hh, hc, hm, hs, ht⟩
  · have : xs = [] := List.eq_nil_of_length_eq_zero h0
    subst this
    exact Sl.nil _ _ _
  · refine ⟨_, _, cap, rfl, rfl, hc, hn, fun _ => ⟨g, 0, rfl, hok g rfl, (Array.getElem?_eq_some_iff.1 hh).1, fun i hi => ⟨[enc xs[i]], rfl, fun j hj => ?_⟩⟩⟩
    simp at hj
    subst hj
    have := OwS.cell (g := g) (cap := cap) h i hi
    simpa [Rep.scalar] using this
theorem OwS.of_bx {b : Nat} {cs : Array Value} {cap : Nat} (h : Bx w b cs e) (hb : base ≤ b) (hm : cap ≤ 140737488355328) (hc : cs.size = cap) (hn : xs.length ≤ cap) (hcs : cs.toList.take xs.length = xs.map enc) :
    OwS enc e w base xs (.slice (some ⟨b, 0, none⟩) xs.length cap) := by
  refine ⟨by simp, .inr ⟨b, cap, cs, rfl, hb, h, hn, by simp only [maxLen]; omega, by simpa using hc, ?_⟩⟩
  rw [Nat.mul_one]
  exact hcs
theorem OwS.nil' (w : World) (base : Nat) : OwS enc e w base [] (.slice none 0 0) := World.ownsRow_nil w base e 1
end

section
variable {P : Program}
/-- append of what reads, nil or not, to a row of the call's own. -/
theorem OwS.run_appends {α : Type} (enc : α → Value) (h1 : ∀ x, (enc x).oneCell' = true) (t ty e : TypeId) (z : Value) (bytes : Nat) (ht : P.underlying t = some (.slice e))
    (hinfo : (P.info? e).map (fun i => (i.zero, i.size, i.bytes)) = some (some z, 1, bytes)) (hz : z.cells.size = 1) (hby : bytes ≤ 64)
    (W : World) (base : Nat) (ok : Nat → Prop) (v : Value) (xs ys : List α) (A : Option Addr) (m c : Nat) (HO : OwS enc e W base xs v) (HY : Sl (Rep.scalar enc h1) W ok ys (.slice A m c))
    (hbase : base ≤ W.heap.size) (h63 : xs.length + ys.length ≤ 1000000000000) :
    ∃ v1 w1, (Builtin.append_ #[t, t] ty #[v, .slice A m c]).run P W = .ok v1 w1 ∧ OwS enc e w1 base (xs ++ ys) v1 ∧ W.grownBy w1 v.ownBlock ∧ (v1.ownBlock = v.ownBlock ∨ v1.ownBlock = some W.heap.size) := by
  obtain ⟨i0, hi, hzz⟩ := Option.map_eq_some_iff.1 hinfo
  simp only [Prod.mk.injEq] at hzz
  obtain ⟨hz0, hz1, hz2⟩ := hzz
  obtain ⟨A', n', c', hv, hn, hc, hm, hel⟩ := HY
  cases hv
  subst hn
  rcases Nat.eq_zero_or_pos ys.length with h0 | h0
  · have : ys = [] := List.eq_nil_of_length_eq_zero h0
    subst this
    rw [List.append_nil]
    refine ⟨v, W, ?_, HO, ⟨rfl, rfl, rfl, Nat.le_refl _, fun _ _ _ => rfl⟩, .inl rfl⟩
    rcases HO.2 with ⟨rfl, _⟩ | ⟨g, cap, cur, rfl, _, _, hnc, _⟩
    · cases A <;> simp [Builtin.append_, run_underlying ht, sizeOf, typeInfo, hi, Builtin.lenOf, Builtin.firstCells, loadCells, loadCellsFrom]
    · cases A <;> simp [Builtin.append_, run_underlying ht, sizeOf, typeInfo, hi, Builtin.lenOf, Builtin.firstCells, loadCells, loadCellsFrom, hnc, storeCells]
  · obtain ⟨g, o, rfl, hg, hlt, hrows⟩ := hel (by intro e; subst e; simp at h0)
    have hnews : ∀ j u, (ys.map enc)[j]? = some u → W.cell? ((⟨g, o, none⟩ : Addr).add j) = some u := by
      intro j u hu
      obtain ⟨hj, rfl⟩ := List.getElem?_eq_some_iff.1 hu
      simp only [List.length_map] at hj
      obtain ⟨cs, hcs, hr⟩ := hrows j hj
      have hcs' : cs = [enc ys[j]] := hcs
      subst hcs'
      have := hr 0 (by simp)
      simp only [Rep.scalar, Nat.mul_one, Nat.add_zero, List.getElem_cons_zero] at this
      have hadd : (⟨g, o, none⟩ : Addr).add j = ⟨g, o + j, none⟩ := by unfold Addr.add; split <;> simp_all
      rw [hadd, this]
      simp
    obtain ⟨v1, w1, hr, h2, h3, _, h5⟩ := run_append_own_at (P := P) W base t ty e i0 z 1 bytes ht hi hz0 hz1 hz2 hz (by omega) v xs.length (xs.map enc) HO ⟨g, o, none⟩ ys.length c (ys.map enc) (by simp) hnews
      (by intro u hu; obtain ⟨x, _, rfl⟩ := List.mem_map.1 hu; exact h1 x) (by simp only [maxLen]; omega) (Nat.le_trans (Nat.mul_le_mul h63 hby) (by omega)) hbase
    refine ⟨v1, w1, hr, ?_, h3, h5⟩
    unfold OwS
    rw [List.map_append, List.length_append]
    exact h2

theorem OwS.appends {ops : Array Oper} {rest : List Oper} {o : Oper} {a : Act} {Q : Exit → Act → World → Prop} {α : Type} (enc : α → Value) (h1 : ∀ x, (enc x).oneCell' = true) (hgd : o.guard = none) (s x : Operand) (t e : TypeId) (z : Value) (bytes : Nat)
    (ho : o.op = .call { callee := .builtin .append, args := #[s, x], argTypes := #[t, t] })
    (ht : P.underlying t = some (.slice e)) (hinfo : (P.info? e).map (fun i => (i.zero, i.size, i.bytes)) = some (some z, 1, bytes)) (hz : z.cells.size = 1) (hby : bytes ≤ 64)
    (base : Nat) (ok : Nat → Prop) (W : World) (v : Value) (xs ys : List α) (A : Option Addr) (m c : Nat) (hs : a.eval s = v) (hx : a.eval x = .slice A m c)
    (HO : OwS enc e W base xs v) (HY : Sl (Rep.scalar enc h1) W ok ys (.slice A m c)) (hbase : base ≤ W.heap.size) (h63 : xs.length + ys.length ≤ 1000000000000)
    (h : ∀ v1 w1, OwS enc e w1 base (xs ++ ys) v1 → W.grownBy w1 v.ownBlock → (v1.ownBlock = v.ownBlock ∨ v1.ownBlock = some W.heap.size) → wpList P ops Q rest (a.put o.dst v1) w1) :
    wpList P ops Q (o :: rest) a W := by
  refine wpList_plain hgd fun K hK => ?_
  obtain ⟨v1, w1, hr, h2, h3, h4⟩ := OwS.run_appends (P := P) enc h1 t o.type e z bytes ht hinfo hz hby W base ok v xs ys A m c HO HY hbase h63
  unfold Oper.wp execOp
  simp only [ho, resolve, invoke, builtin, Sem.run_bind, Sem.run_pure, Result.andThen_ok, List.map_toArray, List.map_cons, List.map_nil, hs, hx, hr]
  exact hK _ _ (h v1 w1 h2 h3 h4)
end
end Go.Proofs.Ytiaojefhbhodiaa
