/-
  A region whose order is drawn, within a round of a loop over an iterator: what reads comes first; what follows is a chain.
-/
import Derived.Test.YtiaojefhbhodiaaW14
import Derived.StillTail
import Derived.OrdersHeld
import Derived.OrdersIn
set_option linter.unusedVariables false
namespace Go.Proofs.Ytiaojefhbhodiaa
open Go.RowKit Go.Shelf

section
variable {P : Program} {ops : Array Oper} {Q : Exit → Act → World → Prop} {S : World → Prop} {md : Region.Mode}

def noDefer (ops : Array Oper) : Bool := ops.all fun o => match o.op with | .defer _ => false | _ => true
theorem noDefer_spec (h : noDefer ops = true) {i : Nat} {o : Oper} (ho : ops[i]? = some o) (c : Call) : o.op ≠ .defer c := by
  intro e
  have hm := Array.mem_of_getElem? ho
  have := (Array.all_eq_true'.1 h) o hm
  rw [e] at this
  cases this

theorem rowsIn_wide {n : Nat} {l : Nat} {row : String} {args : Array Value} {w : World} {R : Value → World → Prop} (h : Rows P row args w R) : RowsIn (Fence.wide.inRound l) n P row args w R := by
  intro c cs _
  obtain ⟨v, w', r, s⟩ := h c cs
  exact ⟨v, w', r, stepsIn_wide.2 s⟩

theorem wpIn_of_oper {l m : Nat} {o : Oper} {a : Act} {w : World} {K : Act → World → Prop} (hd : ∀ c, o.op ≠ .defer c) (h : o.wp P a w K Q) : o.wpIn (Fence.wide.inRound l) m P a w K Q := by
  refine ⟨fun _ _ => trivial, ?_⟩
  rw [Oper.semAt_eq _ _ _ hd]
  unfold Oper.wp at h
  generalize (execOp a.eval o).run P w = r at *
  cases r with
  | ok n w' =>
    cases n <;> simp only [Oper.upon] at h <;> simp only [Oper.uponIn] <;>
      first
        | exact h
        | exact ⟨fun h => by simp [Fence.wide] at h, (inr h).mono (fun e w'' he => by cases e <;> exact he)⟩
        | exact ⟨fun h => by simp [Fence.wide] at h, rowsIn_wide h⟩
  | halt x w' => cases x <;> simp only [Oper.upon] at h <;> simp only [Oper.uponIn] <;> exact h

theorem wpAnyIn_of_any {l m : Nat} (hd : noDefer ops = true) (hQ : ¬ LetsOut Q) : ∀ (fuel : Nat) (listed : Array Bool) (a : Act) (w : World),
    wpAny P md ops Q fuel listed a w → wpAnyIn (Fence.wide.inRound l) m P md ops Q fuel listed a w
  | 0, _, _, _, h => h
  | fuel + 1, listed, a, w, h => ⟨h.1, fun i hi => by
    have h2 := h.2 i hi
    unfold wpOp at h2
    unfold wpOpIn
    split
    · rename_i ho
      simp only [ho] at h2
      exact wpAnyIn_of_any hd hQ fuel _ a w h2
    · rename_i o ho
      simp only [ho] at h2
      split
      · rename_i hw
        simp only [hw, if_true] at h2
        rcases h2 with h2 | ⟨_, h2⟩
        · exact wpIn_of_oper (noDefer_spec hd ho) (Oper.wp_mono (fun a' w' h' => wpAnyIn_of_any hd hQ fuel _ a' w' h') h2)
        · exact absurd h2 hQ
      · rename_i hw
        simp only [hw] at h2
        exact ⟨fun _ _ => trivial, wpAnyIn_of_any hd hQ fuel _ _ w h2⟩⟩

/-- Operations that read, one after another: each yields its value in every world that meets S. -/
def wpHeld (P : Program) (ops : Array Oper) (S : World → Prop) (K : Act → Prop) : List Oper → Act → Prop
  | [], a => K a
  | o :: rest, a => ∃ v, YieldsIf P ops S o v a ∧ wpHeld P ops S K rest (a.put o.dst v)
theorem wpHeld_nil {K : Act → Prop} {a : Act} (h : K a) : wpHeld P ops S K [] a := h
theorem wpHeld_step {K : Act → Prop} {a : Act} {o : Oper} {rest : List Oper} (v : Value) (hw : Region.wanted o (yielded ops a.tmps) = true) (hy : ∀ w, S w → (execOp a.eval o).run P w = .ok (.value v) w) (h : wpHeld P ops S K rest (a.put o.dst v)) : wpHeld P ops S K (o :: rest) a :=
  ⟨v, .inl ⟨hw, hy⟩, h⟩

/-- The chain behind them: S holds behind each of its operations. -/
def wpSeqH (P : Program) (ops : Array Oper) (Q : Exit → Act → World → Prop) (S : World → Prop) : List Oper → Act → World → Prop
  | [], a, w => Q .normal a w
  | o :: rest, a, w => if Region.wanted o (yielded ops a.tmps) then o.wp P a w (fun a' w' => S w' ∧ wpSeqH P ops Q S rest a' w') Q else S w ∧ wpSeqH P ops Q S rest (a.put o.dst undef) w
theorem wpSeqH_nil {a : Act} {w : World} (h : Q .normal a w) : wpSeqH P ops Q S [] a w := h
theorem wpSeqH_step {a : Act} {w : World} {o : Oper} {rest : List Oper}
    (h : ∀ K : Act → World → Prop, (∀ a' w', S w' → wpSeqH P ops Q S rest a' w' → K a' w') → if Region.wanted o (yielded ops a.tmps) then o.wp P a w K Q else K (a.put o.dst undef) w) : wpSeqH P ops Q S (o :: rest) a w := by
  have := h (fun a' w' => S w' ∧ wpSeqH P ops Q S rest a' w') (fun _ _ h1 h2 => ⟨h1, h2⟩)
  exact this

theorem wpAnyH_of_seq : ∀ (l : List Oper) (k : Nat) (listed : Array Bool) (a : Act) (w : World), (∀ j, l[j]? = ops[k + j]?) →
    Region.seqB md ops l.length k listed = true → wpSeqH P ops Q S l a w → wpAnyH P md ops Q S l.length listed a w
  | [], _, _, _, _, _, hB, h => ⟨by simpa [Region.seqB] using hB, h⟩
  | o :: l, k, listed, a, w, hl, hB, h => by
    have h0 : ops[k]? = some o := by simpa using (hl 0).symm
    simp only [List.length_cons, Region.seqB, Bool.and_eq_true, decide_eq_true_eq] at hB
    refine ⟨fun h1 => (by rw [hB.1] at h1; cases h1), fun i hi => ?_⟩
    rw [hB.1] at hi
    have hik : i = k := by simpa using hi
    subst hik
    have hw : wpOp P ops Q i (fun a' w' => S w' ∧ wpSeqH P ops Q S l a' w') a w := by
      unfold wpOp
      simp only [h0]
      unfold wpSeqH at h
      split
      · rename_i hw; rw [if_pos hw] at h; exact .inl h
      · rename_i hw; rw [if_neg hw] at h; exact h
    exact wpOp_mono (fun a' w' h' => ⟨h'.1, wpAnyH_of_seq l (i + 1) _ a' w' (fun j => by have := hl (j + 1); simpa [Nat.add_assoc, Nat.add_comm 1 j] using this) hB.2 h'.2⟩) hw

theorem wpAnyH_lex (hs : Region.noSelect ops = true) (hQ : ∀ c a w, ¬ Q (.panic c) a w) {tl : List Oper} {w : World} (hS : S w) : ∀ (hd : List Oper) (k : Nat) (listed : Array Bool) (a : Act), (∀ j, (hd ++ tl)[j]? = ops[k + j]?) →
    Region.lexHead md ops tl.length hd.length k listed = true → wpHeld P ops S (fun a' => wpSeqH P ops Q S tl a' w) hd a → wpAnyH P md ops Q S (hd.length + tl.length) listed a w
  | [], k, listed, a, hl, hB, h => by
    rw [List.length_nil, Nat.zero_add]
    exact wpAnyH_of_seq tl k listed a w (by simpa using hl) (by simpa [Region.lexHead] using hB) h
  | o :: hd, k, listed, a, hl, hB, h => by
    have h0 : ops[k]? = some o := by simpa using (hl 0).symm
    simp only [List.length_cons, Region.lexHead, Bool.and_eq_true] at hB
    obtain ⟨v, hy, h⟩ := h
    rw [List.length_cons, show hd.length + 1 + tl.length = (hd.length + tl.length) + 1 by omega]
    refine wpAnyH_take h0 hs hB.1.2 hB.1.1 (fun c a w h => absurd h (hQ _ _ _)) hy hS ?_
    exact wpAnyH_lex hs hQ hS hd (k + 1) _ _ (fun j => by have := hl (j + 1); simpa [Nat.add_assoc, Nat.add_comm 1 j] using this) hB.2 h

def heldB (ops : Array Oper) (n : Nat) : Bool := noDefer ops && Region.noSelect ops && decide (n ≤ ops.size) && Region.lexHead .any ops (ops.size - n) n 0 (Array.replicate ops.size false)

theorem wpIn_region_held {l : Nat} {m id : Nat} {a : Act} {w : World} {os : List Oper} (n : Nat) (S : World → Prop) (hm : P.follows .mixedOrders = true) (hB : heldB os.toArray n = true) (hQ : ∀ c a w, ¬ Q (.panic c) a w) (hL : ¬ LetsOut Q) (hS : S w.drew)
    (h : wpHeld P os.toArray S (fun a' => wpSeqH P os.toArray Q S (os.drop n) a' w.drew) (os.take n) a) : (Code.region id os.toArray true).wpIn (Fence.wide.inRound l) m P Q a w := by
  simp only [heldB, Bool.and_eq_true, decide_eq_true_eq] at hB
  obtain ⟨⟨⟨hd, hs⟩, hn⟩, hlex⟩ := hB
  have hn' : n ≤ os.length := by simpa using hn
  have htl : (os.take n).length = n := by simp; omega
  have hdl : (os.drop n).length = os.toArray.size - n := by simp
  refine wpIn_region_any hm (wpAnyIn_of_any hd hL _ _ _ _ (wpAny_of_held (S := S) _ _ _ _ ?_))
  have := wpAnyH_lex (md := .any) (tl := os.drop n) hs hQ hS (os.take n) 0 (Array.replicate os.toArray.size false) a (fun j => by simp) (by rw [htl, hdl]; exact hlex) h
  rw [htl, hdl, show n + (os.toArray.size - n) = os.toArray.size by omega] at this
  exact this

/-- In the text's order: what reads is taken first, each by its value in every world that meets S ('true'); what else comes up comes up alone ('false'). -/
def wpMix (P : Program) (ops : Array Oper) (Q : Exit → Act → World → Prop) (S : World → Prop) : List Oper → List Bool → Act → World → Prop
  | [], _, a, w => Q .normal a w
  | o :: rest, true :: bs, a, w => ∃ v, YieldsIf P ops S o v a ∧ wpMix P ops Q S rest bs (a.put o.dst v) w
  | o :: rest, bs, a, w => if Region.wanted o (yielded ops a.tmps) then o.wp P a w (fun a' w' => S w' ∧ wpMix P ops Q S rest (bs.drop 1) a' w') Q else S w ∧ wpMix P ops Q S rest (bs.drop 1) (a.put o.dst undef) w
theorem wpMix_nil {bs : List Bool} {a : Act} {w : World} (h : Q .normal a w) : wpMix P ops Q S [] bs a w := h
theorem wpMix_held {bs : List Bool} {a : Act} {w : World} {o : Oper} {rest : List Oper} (v : Value) (hw : Region.wanted o (yielded ops a.tmps) = true) (hy : ∀ w, S w → (execOp a.eval o).run P w = .ok (.value v) w) (h : wpMix P ops Q S rest bs (a.put o.dst v) w) : wpMix P ops Q S (o :: rest) (true :: bs) a w :=
  ⟨v, .inl ⟨hw, hy⟩, h⟩
theorem wpMix_unheld {bs : List Bool} {a : Act} {w : World} {o : Oper} {rest : List Oper} (hw : Region.wanted o (yielded ops a.tmps) = false) (h : wpMix P ops Q S rest bs (a.put o.dst undef) w) : wpMix P ops Q S (o :: rest) (true :: bs) a w :=
  ⟨undef, .inr ⟨hw, rfl⟩, h⟩
theorem wpMix_step {bs : List Bool} {a : Act} {w : World} {o : Oper} {rest : List Oper}
    (h : ∀ K : Act → World → Prop, (∀ a' w', S w' → wpMix P ops Q S rest bs a' w' → K a' w') → if Region.wanted o (yielded ops a.tmps) then o.wp P a w K Q else K (a.put o.dst undef) w) : wpMix P ops Q S (o :: rest) (false :: bs) a w := by
  have := h (fun a' w' => S w' ∧ wpMix P ops Q S rest bs a' w') (fun _ _ h1 h2 => ⟨h1, h2⟩)
  exact this

def mixB (md : Region.Mode) (ops : Array Oper) : Nat → List Bool → Nat → Array Bool → Bool
  | 0, _, _, listed => (Region.ready md ops listed).isEmpty
  | f + 1, true :: bs, k, listed => (Region.ready md ops listed).contains k && Region.free md ops listed k && mixB md ops f bs (k + 1) (listed.setIfInBounds k true)
  | f + 1, bs, k, listed => decide (Region.ready md ops listed = [k]) && mixB md ops f (bs.drop 1) (k + 1) (listed.setIfInBounds k true)

theorem wpAnyH_mix (hs : Region.noSelect ops = true) (hQ : ∀ c a w, ¬ Q (.panic c) a w) : ∀ (l : List Oper) (bs : List Bool) (k : Nat) (listed : Array Bool) (a : Act) (w : World), S w → (∀ j, l[j]? = ops[k + j]?) →
    mixB md ops l.length bs k listed = true → wpMix P ops Q S l bs a w → wpAnyH P md ops Q S l.length listed a w
  | [], _, _, _, _, _, _, _, hB, h => ⟨by simpa [mixB] using hB, h⟩
  | o :: l, true :: bs, k, listed, a, w, hS, hl, hB, h => by
    have h0 : ops[k]? = some o := by simpa using (hl 0).symm
    simp only [List.length_cons, mixB, Bool.and_eq_true] at hB
    obtain ⟨v, hy, h⟩ := h
    refine wpAnyH_take h0 hs hB.1.2 hB.1.1 (fun c a w h => absurd h (hQ _ _ _)) hy hS ?_
    exact wpAnyH_mix hs hQ l bs (k + 1) _ _ w hS (fun j => by have := hl (j + 1); simpa [Nat.add_assoc, Nat.add_comm 1 j] using this) hB.2 h
  | o :: l, false :: bs, k, listed, a, w, hS, hl, hB, h => by
    have h0 : ops[k]? = some o := by simpa using (hl 0).symm
    simp only [List.length_cons, mixB, Bool.and_eq_true, decide_eq_true_eq, List.drop_succ_cons, List.drop_zero] at hB
    refine ⟨fun h1 => (by rw [hB.1] at h1; cases h1), fun i hi => ?_⟩
    rw [hB.1] at hi
    have hik : i = k := by simpa using hi
    subst hik
    have hw : wpOp P ops Q i (fun a' w' => S w' ∧ wpMix P ops Q S l bs a' w') a w := by
      unfold wpOp
      simp only [h0]
      have h' : if Region.wanted o (yielded ops a.tmps) then o.wp P a w (fun a' w' => S w' ∧ wpMix P ops Q S l bs a' w') Q else S w ∧ wpMix P ops Q S l bs (a.put o.dst undef) w := h
      split
      · rename_i hw; rw [if_pos hw] at h'; exact .inl h'
      · rename_i hw; rw [if_neg hw] at h'; exact h'
    exact wpOp_mono (fun a' w' h' => ⟨h'.1, wpAnyH_mix hs hQ l bs (i + 1) _ a' w' h'.1 (fun j => by have := hl (j + 1); simpa [Nat.add_assoc, Nat.add_comm 1 j] using this) hB.2 h'.2⟩) hw
  | o :: l, [], k, listed, a, w, hS, hl, hB, h => by
    have h0 : ops[k]? = some o := by simpa using (hl 0).symm
    simp only [List.length_cons, mixB, Bool.and_eq_true, decide_eq_true_eq, List.drop_nil] at hB
    refine ⟨fun h1 => (by rw [hB.1] at h1; cases h1), fun i hi => ?_⟩
    rw [hB.1] at hi
    have hik : i = k := by simpa using hi
    subst hik
    have hw : wpOp P ops Q i (fun a' w' => S w' ∧ wpMix P ops Q S l [] a' w') a w := by
      unfold wpOp
      simp only [h0]
      have h' : if Region.wanted o (yielded ops a.tmps) then o.wp P a w (fun a' w' => S w' ∧ wpMix P ops Q S l [] a' w') Q else S w ∧ wpMix P ops Q S l [] (a.put o.dst undef) w := h
      split
      · rename_i hw; rw [if_pos hw] at h'; exact .inl h'
      · rename_i hw; rw [if_neg hw] at h'; exact h'
    exact wpOp_mono (fun a' w' h' => ⟨h'.1, wpAnyH_mix hs hQ l [] (i + 1) _ a' w' h'.1 (fun j => by have := hl (j + 1); simpa [Nat.add_assoc, Nat.add_comm 1 j] using this) hB.2 h'.2⟩) hw

theorem wp_region_mix {id : Nat} {a : Act} {w : World} {os : List Oper} (bs : List Bool) (S : World → Prop) (hm : P.follows .mixedOrders = true) (hs : Region.noSelect os.toArray = true) (hB : mixB .any os.toArray os.length bs 0 (Array.replicate os.length false) = true) (hQ : ∀ c a w, ¬ Q (.panic c) a w) (hS : S w.drew)
    (h : wpMix P os.toArray Q S os bs a w.drew) : (Code.region id os.toArray true).wp P Q a w := by
  refine wp_region_held (S := S) hm ?_
  have := wpAnyH_mix (md := .any) hs hQ os bs 0 (Array.replicate os.length false) a w.drew hS (fun j => by simp) hB h
  simpa using this

/-! ### Orders that branch; what comes behind all that reads owes S no more -/
def needs (md : Region.Mode) (ops : Array Oper) : Nat → Nat → Nat → Bool
  | 0, _, _ => false
  | f + 1, j, i => match ops[j]? with
    | none => false
    | some o => o.after.any fun e => Region.binds md e && (e.on == i || needs md ops f e.on i)
def Closed (md : Region.Mode) (ops : Array Oper) (listed : Array Bool) : Prop := ∀ j oj, ops[j]? = some oj → listed.getD j false = true → ∀ e ∈ oj.after, Region.binds md e = true → listed.getD e.on false = true
theorem needs_listed {listed : Array Bool} (hc : Closed md ops listed) {i : Nat} : ∀ (f j : Nat), needs md ops f j i = true → listed.getD j false = true → listed.getD i false = true
  | 0, _, h, _ => by cases h
  | f + 1, j, h, hl => by
    unfold needs at h
    split at h
    · cases h
    · rename_i o ho
      obtain ⟨e, he, hb⟩ := Array.any_eq_true'.1 h
      simp only [Bool.and_eq_true, Bool.or_eq_true, beq_iff_eq] at hb
      have h1 := hc j o ho hl e he hb.1
      rcases hb.2 with h2 | h2
      · rwa [h2] at h1
      · exact needs_listed hc f e.on h2 h1
theorem needs_ready {listed : Array Bool} (hc : Closed md ops listed) {i j : Nat} (f : Nat) (h : needs md ops f j i = true) (hr : j ∈ Region.ready md ops listed) : listed.getD i false = true := by
  obtain ⟨_, oj, hoj, hall⟩ := mem_ready.1 hr
  cases f with
  | zero => cases h
  | succ f =>
    unfold needs at h
    simp only [hoj] at h
    obtain ⟨e, he, hb⟩ := Array.any_eq_true'.1 h
    simp only [Bool.and_eq_true, Bool.or_eq_true, beq_iff_eq] at hb
    have h1 := hall e he hb.1
    rcases hb.2 with h2 | h2
    · rwa [h2] at h1
    · exact needs_listed hc f e.on h2 h1
theorem Closed.set {listed : Array Bool} (hc : Closed md ops listed) {j : Nat} (hr : j ∈ Region.ready md ops listed) : Closed md ops (listed.setIfInBounds j true) := by
  intro k ok hk hl e he hb
  obtain ⟨_, oj, hoj, hall⟩ := mem_ready.1 hr
  by_cases hjk : j = k
  · subst hjk
    have : ok = oj := Option.some.inj (hk.symm.trans hoj)
    subst this
    exact getD_set_true (hall e he hb)
  · rw [getD_set_ne false hjk] at hl
    exact getD_set_true (hc k ok hk hl e he hb)
theorem closed_none (n : Nat) : Closed md ops (Array.replicate n false) := by
  intro j oj _ hl
  rw [getD_replicate_false] at hl
  cases hl

def wpAnyG (P : Program) (md : Region.Mode) (ops : Array Oper) (Q : Exit → Act → World → Prop) (S : World → Prop) (T : Nat → Bool) : Nat → Array Bool → Act → World → Prop
  | 0, listed, a, w => Region.ready md ops listed = [] ∧ Q .normal a w
  | fuel + 1, listed, a, w =>
    (Region.ready md ops listed = [] → Q .normal a w) ∧
    ∀ i ∈ Region.ready md ops listed, wpOp P ops Q i (fun a' w' => (T i = false → S w') ∧ wpAnyG P md ops Q S T fuel (listed.setIfInBounds i true) a' w') a w
theorem wpAny_of_G {T : Nat → Bool} : ∀ (fuel : Nat) (listed : Array Bool) (a : Act) (w : World), wpAnyG P md ops Q S T fuel listed a w → wpAny P md ops Q fuel listed a w
  | 0, _, _, _, h => h
  | fuel + 1, _, _, _, h => ⟨h.1, fun i hi => wpOp_mono (fun a' w' h' => wpAny_of_G fuel _ a' w' h'.2) (h.2 i hi)⟩

theorem wpAnyG_first {T : Nat → Bool} {i : Nat} {oi : Oper} {v : Value} (hi : ops[i]? = some oi) (hsel : ∀ (j : Nat) (o : Oper) cs b, ops[j]? = some o → o.op ≠ .select cs b)
    (hQ : ∀ c a w, ¬ Q (.panic c) a w) (hT : ∀ j, T j = true → ∃ f, needs md ops f j i = true) :
    ∀ (fuel : Nat) (listed : Array Bool) (a : Act) (w : World), Closed md ops listed →
      (∀ j oj, ops[j]? = some oj → j ≠ i → listed.getD j true = false → (∀ e ∈ oj.after, Region.binds md e = true → e.on ≠ i) → oi.apart ops oj = true) →
      i ∈ Region.ready md ops listed → YieldsIf P ops S oi v a → S w →
      wpAnyG P md ops Q S T fuel (listed.setIfInBounds i true) (a.put oi.dst v) w → wpAnyG P md ops Q S T (fuel + 1) listed a w := by
  intro fuel
  induction fuel with
  | zero =>
    intro listed a w _ _ hr hy hS H
    refine ⟨fun h => (by rw [h] at hr; cases hr), fun j hj => ?_⟩
    by_cases hji : j = i
    · subst hji; exact hy.wpOp hi hS ⟨fun _ => hS, H⟩
    · have := ready_mono hj hji
      rw [H.1] at this
      cases this
  | succ fuel ih =>
    intro listed a w hcl hfree hr hy hS H
    refine ⟨fun h => (by rw [h] at hr; cases hr), fun j hj => ?_⟩
    by_cases hji : j = i
    · subst hji; exact hy.wpOp hi hS ⟨fun _ => hS, H⟩
    · have h1 := H.2 j (ready_mono hj hji)
      obtain ⟨hjun, oj, hoj, hall⟩ := mem_ready.1 hj
      have hiun : listed.getD i false = false := by
        have h0 := (mem_ready.1 hr).1
        rcases Nat.lt_or_ge i listed.size with h' | h'
        · simp [h'] at h0 ⊢; exact h0
        · simp [Array.getElem?_eq_none h'] at h0
      have hTj : T j = false := by
        cases hTT : T j with
        | false => rfl
        | true =>
          obtain ⟨f, hf⟩ := hT j hTT
          have := needs_ready hcl f hf hj
          rw [hiun] at this
          cases this
      have hnot : ∀ e ∈ oj.after, Region.binds md e = true → e.on ≠ i := fun e he hb heq => by
        have h1 := hall e he hb
        rw [heq, hiun] at h1
        cases h1
      have h2 := wpOp_putIf hoj (hfree j oj hoj hji hjun hnot) (fun cs b => hsel i oi cs b hi) (fun cs b => hsel j oj cs b hoj) (fun c a w h => absurd h (hQ _ _ _)) hy h1
      have hfree' : ∀ k ok, ops[k]? = some ok → k ≠ i → (listed.setIfInBounds j true).getD k true = false →
          (∀ e ∈ ok.after, Region.binds md e = true → e.on ≠ i) → oi.apart ops ok = true := fun k ok hk hki hun hno => by
        refine hfree k ok hk hki ?_ hno
        by_cases hjk : j = k
        · subst hjk; exact hjun
        · rw [getD_set_ne true hjk] at hun; exact hun
      refine wpOp_mono (fun a' w' h3 => ⟨h3.2.1, ih (listed.setIfInBounds j true) a' w' (hcl.set hj) hfree' (ready_mono hr (Ne.symm hji)) h3.1 (h3.2.1 hTj) ?_⟩) h2
      rw [Array.setIfInBounds_comm _ _ hji]
      exact h3.2.2

/-- A goal of the walk by hand: what is listed is closed. -/
structure GoG (P : Program) (os : List Oper) (Q : Exit → Act → World → Prop) (S : World → Prop) (T : Nat → Bool) (fuel : Nat) (listed : Array Bool) (a : Act) (w : World) : Prop where
  out : Closed .any os.toArray listed → wpAnyG P .any os.toArray Q S T fuel listed a w

def allNeeds (ops : Array Oper) (T : Nat → Bool) (i : Nat) : Bool := (List.range ops.size).all fun j => !T j || needs .any ops ops.size j i
theorem allNeeds_spec {T : Nat → Bool} {i : Nat} (hT : ∀ j, ops.size ≤ j → T j = false) (h : allNeeds ops T i = true) (j : Nat) (hj : T j = true) : ∃ f, needs .any ops f j i = true := by
  rcases Nat.lt_or_ge j ops.size with h1 | h1
  · have := List.all_eq_true.1 h j (List.mem_range.2 h1)
    rw [hj] at this
    exact ⟨_, by simpa using this⟩
  · rw [hT j h1] at hj; cases hj

section
variable {os : List Oper} {T : List Nat} {fuel : Nat} {listed : Array Bool} {a : Act} {w : World} {i : Nat} {o : Oper}
theorem GoG.take (i : Nat) (hi : os[i]? = some o) (hB : (Region.noSelect os.toArray && Region.free .any os.toArray listed i && (Region.ready .any os.toArray listed).contains i && allNeeds os.toArray (fun j => T.contains j && decide (j < os.toArray.size)) i) = true)
    (hQ : ∀ c a w, ¬ Q (.panic c) a w) (hS : S w) (v : Value) (hw : Region.wanted o (yielded os.toArray a.tmps) = true) (hy : ∀ w, S w → (execOp a.eval o).run P w = .ok (.value v) w)
    (h : GoG P os Q S (fun j => T.contains j && decide (j < os.toArray.size)) fuel (listed.setIfInBounds i true) (a.put o.dst v) w) : GoG P os Q S (fun j => T.contains j && decide (j < os.toArray.size)) (fuel + 1) listed a w := by
  simp only [Bool.and_eq_true] at hB
  obtain ⟨⟨⟨h1, h2⟩, h3⟩, h4⟩ := hB
  have hi' : os.toArray[i]? = some o := by simpa using hi
  have hr : i ∈ Region.ready .any os.toArray listed := by simpa using h3
  refine ⟨fun hc => wpAnyG_first hi' (Region.noSelect_spec h1) hQ (allNeeds_spec (fun j hj => by simp at hj ⊢; intro _; exact hj) h4) fuel listed a w hc (Region.free_spec hi' h2) hr (.inl ⟨hw, hy⟩) hS (h.out (hc.set hr))⟩
theorem GoG.alone (i : Nat) {T' : Nat → Bool} (hi : os[i]? = some o) (hr : Region.ready .any os.toArray listed = [i])
    (h : ∀ K : Act → World → Prop, (∀ a' w', (T' i = false → S w') → GoG P os Q S T' fuel (listed.setIfInBounds i true) a' w' → K a' w') → if Region.wanted o (yielded os.toArray a.tmps) then o.wp P a w K Q else K (a.put o.dst undef) w) :
    GoG P os Q S T' (fuel + 1) listed a w := by
  have hi' : os.toArray[i]? = some o := by simpa using hi
  refine ⟨fun hc => ⟨fun h0 => (by rw [h0] at hr; cases hr), fun j hj => ?_⟩⟩
  have hj' := hj
  rw [hr] at hj
  have : j = i := by simpa using hj
  subst this
  have h' := h (fun a' w' => (T' j = false → S w') ∧ wpAnyG P .any os.toArray Q S T' fuel (listed.setIfInBounds j true) a' w') (fun a' w' h1 h2 => ⟨h1, h2.out (hc.set hj')⟩)
  unfold wpOp
  simp only [hi']
  split
  · rename_i hw; rw [if_pos hw] at h'; exact .inl h'
  · rename_i hw; rw [if_neg hw] at h'; exact h'
theorem GoG.two (i k : Nat) {o2 : Oper} {T' : Nat → Bool} (hi : os[i]? = some o) (hk : os[k]? = some o2) (hr : Region.ready .any os.toArray listed = [i, k])
    (h : ∀ K : Act → World → Prop, (∀ a' w', (T' i = false → S w') → GoG P os Q S T' fuel (listed.setIfInBounds i true) a' w' → K a' w') → if Region.wanted o (yielded os.toArray a.tmps) then o.wp P a w K Q else K (a.put o.dst undef) w)
    (h2 : ∀ K : Act → World → Prop, (∀ a' w', (T' k = false → S w') → GoG P os Q S T' fuel (listed.setIfInBounds k true) a' w' → K a' w') → if Region.wanted o2 (yielded os.toArray a.tmps) then o2.wp P a w K Q else K (a.put o2.dst undef) w) :
    GoG P os Q S T' (fuel + 1) listed a w := by
  have hi' : os.toArray[i]? = some o := by simpa using hi
  have hk' : os.toArray[k]? = some o2 := by simpa using hk
  refine ⟨fun hc => ⟨fun h0 => (by rw [h0] at hr; cases hr), fun j hj => ?_⟩⟩
  have hj' := hj
  rw [hr] at hj
  simp only [List.mem_cons, List.not_mem_nil, or_false] at hj
  rcases hj with rfl | rfl
  · have h' := h (fun a' w' => (T' j = false → S w') ∧ wpAnyG P .any os.toArray Q S T' fuel (listed.setIfInBounds j true) a' w') (fun a' w' h1 h2 => ⟨h1, h2.out (hc.set hj')⟩)
    unfold wpOp
    simp only [hi']
    split
    · rename_i hw; rw [if_pos hw] at h'; exact .inl h'
    · rename_i hw; rw [if_neg hw] at h'; exact h'
  · have h' := h2 (fun a' w' => (T' j = false → S w') ∧ wpAnyG P .any os.toArray Q S T' fuel (listed.setIfInBounds j true) a' w') (fun a' w' h1 h2 => ⟨h1, h2.out (hc.set hj')⟩)
    unfold wpOp
    simp only [hk']
    split
    · rename_i hw; rw [if_pos hw] at h'; exact .inl h'
    · rename_i hw; rw [if_neg hw] at h'; exact h'
theorem GoG.done {T' : Nat → Bool} (hr : Region.ready .any os.toArray listed = []) (h : Q .normal a w) : GoG P os Q S T' 0 listed a w := ⟨fun _ => ⟨hr, h⟩⟩
theorem wp_region_G {id : Nat} (T : List Nat) (S : World → Prop) (hm : P.follows .mixedOrders = true) (h : GoG P os Q S (fun j => T.contains j && decide (j < os.toArray.size)) os.length (Array.replicate os.length false) a w.drew) : (Code.region id os.toArray true).wp P Q a w := by
  refine wp_region_any hm (wpAny_of_G (S := S) (T := fun j => T.contains j && decide (j < os.toArray.size)) _ _ _ _ ?_)
  have := h.out (closed_none _)
  simpa using this
end

theorem name_worldIn {F : Fence} {n : Nat} {c : Code} {a : Act} {w : World} (h : ∀ W, W = w → c.wpIn F n P Q a W) : c.wpIn F n P Q a w := h w rfl
end

/-- Rows in a row of headers: they read. -/
theorem rows_sl {W : World} {g base b0 : Nat} {t e : TypeId} {vals : List Value} {rows : List (List Bool)} (hb : Bx W g vals.toArray t) (hl : vals.length = rows.length) (hn : rows.length ≤ 1000000) (hg : b0 ≤ g) (hbb : b0 ≤ base)
    (h : ∀ i (h : i < vals.length) (h' : i < rows.length), OwS Value.bool e W base rows[i] vals[i] ∧ rows[i].length ≤ 1000000) :
    Sl (.slice RB) W (fun c => b0 ≤ c) rows (.slice (some ⟨g, 0, none⟩) rows.length rows.length) := by
  refine ⟨_, _, rows.length, rfl, rfl, Nat.le_refl _, by omega, fun _ => ⟨g, 0, rfl, hg, hb.lt, fun i hi => ⟨[vals[i]'(by omega)], ⟨_, rfl, ?_⟩, fun j hj => ?_⟩⟩⟩
  · obtain ⟨h1, h2⟩ := h i (by omega) hi
    exact h1.sl (fun k hk => by have := (h1.lt k hk).1; omega) (by omega)
  · simp at hj
    subst hj
    rw [hb.cell]
    simp [Rep.slice, hl, hi]
end Go.Proofs.Ytiaojefhbhodiaa
