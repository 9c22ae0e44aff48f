/-
  What an argument that reads as data is: plain lists in memory, with lengths that memory holds.
-/
import Derived.Test.YtiaojefhbhodiaaDat
import Derived.Test.YtiaojefhbhodiaaProg
import Derived.ChangeSame
import Derived.Deep.Slices
import Derived.SizedLaws
import Derived.ChangeOld
set_option linter.unusedVariables false
namespace Go.Proofs.Ytiaojefhbhodiaa
open Go.RowKit Go.ChangeShapes Go.Deep

def Wts {H : Type} (P : Program) (t : TypeId) (d : DataW H) : Prop := ∀ n ∈ d.weights P t, n ≤ reachBytes

theorem weights_mem_all {H : Type} {P : Program} {e : TypeId} : ∀ {ds : List (DataW H)} {d : DataW H}, d ∈ ds → ∀ n ∈ d.weights P e, n ∈ DataW.weightsAll P e ds
  | d0 :: ds, d, h, n, hn => by
    simp only [DataW.weightsAll, List.mem_append]
    rcases List.mem_cons.1 h with rfl | h
    · exact .inl hn
    · exact .inr (weights_mem_all h n hn)

theorem addr_add (g o n : Nat) : Addr.add ⟨g, o, none⟩ n = ⟨g, o + n, none⟩ := by
  unfold Addr.add
  split
  · rename_i h; subst h; rfl
  · rfl

section
variable {H : Type} {enc : TypeId × Value → H} {P : Program} {w : World}

theorem field_int {k : IntKind} {f : Field} {n : Nat} {cs : List Value} {xs : List (DataW H × List MemPlace)} {i : Nat} (h : DataW.trod enc P w 0 (fun _ => true) true n f.type ((cs.drop f.offset).take (P.cellsOf f.type)) = xs[i]?) (hi : i < xs.length) (o : Nat) (ho : f.offset = o)
    (hu : P.underlying f.type = some (.int k)) (h1 : P.cellsOf f.type = 1) : ∃ z, cs[o]? = some (.int k z) ∧ (Lit.int k z).wf = true := by
  subst ho
  rw [List.getElem?_eq_getElem hi, h1] at h
  obtain ⟨z, hz, _, hw⟩ := DataW.trod_int hu h
  refine ⟨z, ?_, hw⟩
  have h2 : ((cs.drop f.offset).take 1)[0]? = some (.int k z) := by rw [hz]; rfl
  rw [List.getElem?_take_of_lt (by omega), List.getElem?_drop] at h2
  exact h2

theorem field_one {f : Field} {n : Nat} {cs : List Value} {xs : List (DataW H × List MemPlace)} {i : Nat} (h : DataW.trod enc P w 0 (fun _ => true) true n f.type ((cs.drop f.offset).take (P.cellsOf f.type)) = xs[i]?) (hi : i < xs.length) (o : Nat) (ho : f.offset = o)
    (h1 : P.cellsOf f.type = 1) {c : Value} (hc : cs[o]? = some c) : DataW.trod enc P w 0 (fun _ => true) true n f.type [c] = some xs[i] := by
  subst ho
  rw [List.getElem?_eq_getElem hi, h1] at h
  obtain ⟨h2, h3⟩ := List.getElem?_eq_some_iff.1 hc
  rw [show (cs.drop f.offset).take 1 = [c] by rw [List.drop_eq_getElem_cons h2, h3]; rfl] at h
  exact h

/-- A type's data are told by a kind. -/
def Opens (enc : TypeId × Value → H) (P : Program) (w : World) {α : Type} (rep : Rep α) (e : TypeId) : Prop :=
  ∀ (n : Nat) (cs : List Value) (x : DataW H × List MemPlace), DataW.trod enc P w 0 (fun _ => true) true n e cs = some x → Wts P e x.1 → ∃ y, rep.is w (fun b => b < w.heap.size) y cs

theorem wts_part {t : TypeId} {fs : Array Field} {parts : List (DataW H)} (ht : P.underlying t = some (.struct fs)) (h : Wts P t (.agg parts)) (i : Nat) (f : Field) (d : DataW H) (hf : fs[i]? = some f) (hd : parts[i]? = some d) : Wts P f.type d := by
  intro n hn
  refine h n ?_
  simp only [DataW.weights, ht]
  exact DataW.weights_mem_each (j := i) (by simp [hf]) hd n hn

theorem opens_slice {α : Type} (rep : Rep α) {t e : TypeId} (ht : P.underlying t = some (.slice e)) (hc : P.cellsOf e = rep.sz) (hb : 0 < P.bytesOf e) (he : Opens enc P w rep e)
    {fuel : Nat} {cs : List Value} {x : DataW H × List MemPlace} (h : DataW.trod enc P w 0 (fun _ => true) true fuel t cs = some x) (hw : Wts P t x.1) :
    ∃ xs v, cs = [v] ∧ Sl rep w (fun b => b < w.heap.size) xs v := by
  rcases open_slice ht h with ⟨rfl, rfl⟩ | ⟨a, len, cap, m, n, D, Pl, rfl, hb0, hl, hm, hmm, rfl, hx⟩
  · exact ⟨[], _, rfl, Sl.nil _ _ _⟩
  · have hmc : m = cap := by rw [hmm]; rfl
    subst hmc
    have hlen : len ≤ 140737488355328 := by
      have h1 := hw ((((List.range len).map D).length + ((List.range (m - len)).map fun j => D (len + j)).length) * P.bytesOf e) (by simp [DataW.weights, ht])
      simp only [List.length_map, List.length_range] at h1
      have h2 : len ≤ (len + (m - len)) * P.bytesOf e := by
        calc len ≤ (len + (m - len)) * 1 := by omega
          _ ≤ (len + (m - len)) * P.bytesOf e := Nat.mul_le_mul_left _ hb
      have h3 := reachBytes_lt
      omega
    have hall : ∀ i : Fin len, ∃ y : α, ∃ cs', w.cells? 0 (a.add (i.1 * rep.sz)) rep.sz = some cs' ∧ rep.is w (fun b => b < w.heap.size) y cs' := fun i => by
      obtain ⟨cs', h1, h2⟩ := hx i.1 (by omega)
      obtain ⟨y, hy⟩ := he n cs' _ h2 (fun k hk => hw k (by
        simp only [DataW.weights, ht, List.mem_cons, List.mem_append]
        exact .inr (.inl (weights_mem_all (List.mem_map.2 ⟨i.1, by simp, rfl⟩) k hk))))
      exact ⟨y, cs', by rw [← hc]; exact h1, hy⟩
    obtain ⟨f, hf⟩ := Classical.skolem.1 hall
    obtain ⟨g, o, s⟩ := a
    refine ⟨List.ofFn f, _, rfl, _, len, m, rfl, by simp, hl, hlen, fun hne => ?_⟩
    have h0 : 0 < len := by
      rcases Nat.eq_zero_or_pos len with e0 | e0
      · subst e0; exact absurd (by simp) hne
      · exact e0
    have hc0 : w.cell? ⟨g, o, s⟩ ≠ none := by
      obtain ⟨cs', h1, h2⟩ := hf ⟨0, h0⟩
      obtain ⟨_, h3, h4⟩ := World.cells?_some h1
      have h5 := h4 0 rep.pos
      have h6 : cs'[0]? = some (cs'[0]'(by rw [h3]; exact rep.pos)) := List.getElem?_eq_getElem _
      rw [h6] at h5
      intro e
      rw [show (Addr.add (Addr.add ⟨g, o, s⟩ ((⟨0, h0⟩ : Fin len).1 * rep.sz)) 0) = ⟨g, o, s⟩ by simp [Addr.add]] at h5
      rw [e] at h5
      cases h5
    have hs : s = none := by
      cases s with
      | none => rfl
      | some u => exact absurd (by unfold World.cell?; dsimp only; split <;> rfl) hc0
    subst hs
    have hg : g < w.heap.size := by
      rcases Nat.lt_or_ge g w.heap.size with h | h
      · exact h
      · exact absurd (by unfold World.cell?; dsimp only; rw [Array.getElem?_eq_none h]) hc0
    refine ⟨g, o, rfl, hg, hg, fun i hi => ?_⟩
    have hi' : i < len := by simpa using hi
    obtain ⟨cs', h1, h2⟩ := hf ⟨i, hi'⟩
    obtain ⟨_, h3, h4⟩ := World.cells?_some h1
    refine ⟨cs', by simpa using h2, fun j hj => ?_⟩
    have h5 := h4 j (by omega)
    rw [List.getElem?_eq_getElem hj, addr_add, addr_add] at h5
    exact h5

end

section
variable {H : Type} {enc : TypeId × Value → H} {w : World}

set_option maxRecDepth 100000 in
theorem eight {cs : List Value} (h : cs.length = 8) : ∃ c0 c1 c2 c3 c4 c5 c6 c7, cs = [c0, c1, c2, c3, c4, c5, c6, c7] := by
  match cs, h with
  | [c0, c1, c2, c3, c4, c5, c6, c7], _ => exact ⟨c0, c1, c2, c3, c4, c5, c6, c7, rfl⟩
theorem five {cs : List Value} (h : cs.length = 5) : ∃ c0 c1 c2 c3 c4, cs = [c0, c1, c2, c3, c4] := by
  match cs, h with
  | [c0, c1, c2, c3, c4], _ => exact ⟨c0, c1, c2, c3, c4, rfl⟩

theorem two {cs : List Value} (h : cs.length = 2) : ∃ c0 c1, cs = [c0, c1] := by
  match cs, h with
  | [c0, c1], _ => exact ⟨c0, c1, rfl⟩

theorem opens_tac : Opens enc Try.prog w RTac 27 := by
  intro n cs x h hw
  obtain ⟨xs, n', _, rfl, hl, hlen, hf⟩ := DataW.trod_struct Try.underlying27 h
  obtain ⟨c0, c1, c2, c3, c4, c5, c6, c7, rfl⟩ := eight (hl.trans (by kernel_rfl))
  have hlen8 : xs.length = 8 := hlen
  obtain ⟨z0, h0, _⟩ := field_int (hf 0 _ rfl) (by omega) 0 rfl Try.underlying3 (by kernel_rfl)
  obtain ⟨z1, h1, _⟩ := field_int (hf 1 _ rfl) (by omega) 1 rfl Try.underlying3 (by kernel_rfl)
  obtain ⟨z2, h2, _⟩ := field_int (hf 2 _ rfl) (by omega) 2 rfl Try.underlying3 (by kernel_rfl)
  obtain ⟨z3, h3, _⟩ := field_int (hf 3 _ rfl) (by omega) 3 rfl Try.underlying3 (by kernel_rfl)
  obtain ⟨z4, h4, _⟩ := field_int (hf 4 _ rfl) (by omega) 4 rfl Try.underlying3 (by kernel_rfl)
  obtain ⟨z5, h5, _⟩ := field_int (hf 5 _ rfl) (by omega) 5 rfl Try.underlying3 (by kernel_rfl)
  obtain ⟨z6, h6, _⟩ := field_int (hf 6 _ rfl) (by omega) 6 rfl Try.underlying3 (by kernel_rfl)
  obtain ⟨z7, h7, hz⟩ := field_int (hf 7 _ rfl) (by omega) 7 rfl Try.underlying25 (by kernel_rfl)
  simp only [List.getElem?_cons_zero, List.getElem?_cons_succ, Option.some.injEq] at h0 h1 h2 h3 h4 h5 h6 h7
  subst h0 h1 h2 h3 h4 h5 h6 h7
  refine ⟨⟨z0, z1, z2, z3, z4, z5, z6, z7⟩, rfl, ?_⟩
  have hz' : (0 : Int) ≤ z7 ∧ z7 ≤ 4294967295 := by simpa [Lit.wf, IntKind.min, IntKind.max, IntKind.signed, IntKind.bits] using hz
  exact hz'

theorem opens_blk : Opens enc Try.prog w RBlk 54 := by
  intro n cs x h hw
  obtain ⟨xs, n', _, rfl, hl, hlen, hf⟩ := DataW.trod_struct Try.underlying54 h
  obtain ⟨c0, c1, c2, c3, c4, rfl⟩ := five (hl.trans (by kernel_rfl))
  have hlen5 : xs.length = 5 := hlen
  have f0 := field_one (hf 0 _ rfl) (by omega) 0 rfl (by kernel_rfl) rfl
  obtain ⟨l, v, e0, hv⟩ := opens_slice RTac Try.underlying52 (by kernel_rfl) (of_decide_eq_true (by kernel_rfl)) opens_tac f0 (wts_part Try.underlying54 hw 0 _ _ rfl (by rw [List.getElem?_map, List.getElem?_eq_getElem (by omega)]; rfl))
  obtain ⟨z1, h1, _⟩ := field_int (hf 1 _ rfl) (by omega) 1 rfl Try.underlying3 (by kernel_rfl)
  obtain ⟨z2, h2, _⟩ := field_int (hf 2 _ rfl) (by omega) 2 rfl Try.underlying3 (by kernel_rfl)
  obtain ⟨z3, h3, _⟩ := field_int (hf 3 _ rfl) (by omega) 3 rfl Try.underlying3 (by kernel_rfl)
  obtain ⟨z4, h4, _⟩ := field_int (hf 4 _ rfl) (by omega) 4 rfl Try.underlying3 (by kernel_rfl)
  simp only [List.getElem?_cons_zero, List.getElem?_cons_succ, Option.some.injEq] at h1 h2 h3 h4
  subst h1 h2 h3 h4
  simp at e0
  exact ⟨⟨l, z1, z2, z3, z4⟩, c0, rfl, by rw [e0]; exact hv⟩

/-- A function. -/
theorem opens_fn : Opens enc Try.prog w RFn 24 := by
  intro n cs x h hw
  obtain ⟨xs, n', _, rfl, hl, hlen, hf⟩ := DataW.trod_struct Try.underlying24 h
  obtain ⟨c0, c1, rfl⟩ := two (hl.trans (by kernel_rfl))
  have hlen2 : xs.length = 2 := hlen
  have f0 := field_one (hf 1 _ rfl) (by omega) 1 rfl (by kernel_rfl) rfl
  obtain ⟨l, v, e0, hv⟩ := opens_slice RBlk Try.underlying22 (by kernel_rfl) (of_decide_eq_true (by kernel_rfl)) opens_blk f0 (wts_part Try.underlying24 hw 1 _ _ rfl (by rw [List.getElem?_map, List.getElem?_eq_getElem (by omega)]; rfl))
  obtain ⟨z1, h1, _⟩ := field_int (hf 0 _ rfl) (by omega) 0 rfl Try.underlying3 (by kernel_rfl)
  simp only [List.getElem?_cons_zero, Option.some.injEq] at h1
  subst h1
  simp at e0
  exact ⟨⟨z1, l⟩, c1, rfl, by rw [e0]; exact hv⟩

end
end Go.Proofs.Ytiaojefhbhodiaa
