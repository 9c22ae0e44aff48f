/-
  The plain law of DeadEffects: what is left out is pure, what stays stays in order.
-/
import Derived.Test.YtiaojefhbhodiaaW23
set_option linter.unusedVariables false
namespace Go.Proofs.Ytiaojefhbhodiaa

/-- The second list is the first one without some that are pure. -/
inductive Sub : List Tac → List Tac → Prop
  | nil : Sub [] []
  | keep (t : Tac) {x y : List Tac} : Sub x y → Sub (t :: x) (t :: y)
  | drop (t : Tac) {x y : List Tac} : t.pure = true → Sub x y → Sub (t :: x) y
theorem Sub.refl : ∀ x : List Tac, Sub x x
  | [] => .nil
  | t :: x => .keep t (Sub.refl x)
theorem Sub.trans {x y z : List Tac} (h : Sub x y) (k : Sub y z) : Sub x z := by
  induction h generalizing z with
  | nil => exact k
  | keep t h ih =>
    cases k with
    | keep _ k => exact .keep t (ih k)
    | drop _ hp k => exact .drop t hp (ih k)
  | drop t hp h ih => exact .drop t hp (ih k)
theorem Sub.less {x y : List Tac} {t : Tac} (h : Sub x (t :: y)) (hp : t.pure = true) : Sub x y := by
  generalize hz : t :: y = z at h
  induction h with
  | nil => cases hz
  | keep s h ih => cases hz; exact .drop _ hp h
  | drop s hs h ih => exact .drop s hs (ih hz)
theorem Sub.len {x y : List Tac} (h : Sub x y) : y.length ≤ x.length := by
  induction h with
  | nil => exact Nat.le_refl _
  | keep t h ih => simpa using ih
  | drop t hp h ih => simp only [List.length_cons]; omega
theorem Sub.of_nil {y : List Tac} (h : Sub [] y) : y = [] := by cases h; rfl
/-- The step of the greedy look. -/
theorem Sub.match {t : Tac} {x y : List Tac} (h : Sub (t :: x) (t :: y)) : Sub x y := by
  cases h with
  | keep _ h => exact h
  | drop _ hp h => exact h.less hp
theorem Sub.miss {t : Tac} {x y : List Tac} (h : Sub (t :: x) y) (hn : ∀ z, y ≠ t :: z) : t.pure = true ∧ Sub x y := by
  cases h with
  | keep _ h => exact absurd rfl (hn _)
  | drop _ hp h => exact ⟨hp, h⟩

theorem keepB_sub (l : List Tac) : ∀ rs : Rows, rs.length = l.length → Sub l (keepB l rs) := by
  induction l with
  | nil => intro rs _; simp [keepB]; exact .nil
  | cons t l ih =>
    intro rs h
    cases rs with
    | nil => simp at h
    | cons r rs =>
      have := ih rs (by simpa using h)
      unfold keepB
      split
      · rename_i hc
        simp only [Bool.and_eq_true] at hc
        exact .drop t hc.1 this
      · exact .keep t this

/-- Block by block: all but the instructions is the same. -/
structure SubB (x y : Blk) : Prop where
  ins : Sub x.ins y.ins
  hfin : y.fin = x.fin
  hv : y.v = x.v
  hto : y.to = x.to
  hels : y.els = x.els
structure SubF (f g : Fn) : Prop where
  regs : g.regs = f.regs
  len : g.blocks.length = f.blocks.length
  blk : ∀ i (h : i < f.blocks.length) (h' : i < g.blocks.length), SubB f.blocks[i] g.blocks[i]
theorem SubB.trans {x y z : Blk} (h : SubB x y) (k : SubB y z) : SubB x z := ⟨h.ins.trans k.ins, k.hfin.trans h.hfin, k.hv.trans h.hv, k.hto.trans h.hto, k.hels.trans h.hels⟩
theorem SubF.trans {x y z : Fn} (h : SubF x y) (k : SubF y z) : SubF x z :=
  ⟨k.regs.trans h.regs, k.len.trans h.len, fun i h1 h2 => (h.blk i h1 (by have := h.len; omega)).trans (k.blk i (by have := h.len; omega) h2)⟩
theorem once_sub (f : Fn) : SubF f f.once := by
  refine ⟨rfl, by simp [Fn.once], fun i h h' => ?_⟩
  have e : f.once.blocks[i] = onceBlk f.live f.blocks[i] i := by simp [Fn.once]
  rw [e]
  exact ⟨keepB_sub _ _ (behind_len _ _ _), rfl, rfl, rfl, rfl⟩
theorem dead_sub (f : Fn) : SubF f f.dead := by
  rw [Fn.dead]
  split
  · rename_i h
    exact (once_sub f).trans (dead_sub f.once)
  · exact once_sub f
termination_by f.count

/-! ### What few says -/
theorem zeros_true {l : List Int} (h : zeros l = true) : ∀ x ∈ l, x = 0 := by
  unfold zeros at h
  intro x hx
  simpa using List.all_eq_true.1 h x hx
theorem inR_iff {i n : Int} : inR i n = true ↔ 0 ≤ i ∧ i < n := by simp [inR]
theorem fits_idx (t : Tac) (f regs words : Int) (h0 : 0 ≤ regs) (h : t.fits f regs words = true) : t.idx regs.toNat ∧ (t.pure = true → 0 ≤ t.sets) := by
  unfold Tac.fits at h
  have hz : ((regs.toNat : Nat) : Int) = regs := by omega
  split at h
  · rename_i ho
    simp only [Bool.and_eq_true, inR_iff] at h
    refine ⟨⟨fun u hu => by simp [Tac.uses, ho] at hu, by rw [hz]; simp [Tac.sets, ho]; exact h.1.2⟩, fun _ => by simp [Tac.sets, ho]; exact h.1.1⟩
  split at h
  · rename_i _ ho
    simp only [Bool.and_eq_true, inR_iff] at h
    refine ⟨⟨fun u hu => by simp [Tac.uses, ho] at hu; subst hu; omega, by rw [hz]; simp [Tac.sets, ho]; omega⟩, fun _ => by simp [Tac.sets, ho]; omega⟩
  split at h
  · rename_i _ _ ho
    simp only [Bool.and_eq_true, inR_iff] at h
    refine ⟨⟨fun u hu => by simp [Tac.uses, ho] at hu; rcases hu with rfl | rfl <;> omega, by rw [hz]; simp [Tac.sets, ho]; omega⟩, fun _ => by simp [Tac.sets, ho]; omega⟩
  split at h
  · rename_i _ _ _ ho
    simp only [Bool.and_eq_true, inR_iff] at h
    refine ⟨⟨fun u hu => by simp [Tac.uses, ho] at hu, by rw [hz]; simp [Tac.sets, ho]; omega⟩, fun _ => by simp [Tac.sets, ho]; omega⟩
  split at h
  · rename_i _ _ _ _ ho
    simp only [Bool.and_eq_true, inR_iff] at h
    refine ⟨⟨fun u hu => by simp [Tac.uses, ho] at hu; subst hu; omega, by rw [hz]; simp [Tac.sets, ho]; omega⟩, fun hp => by simp [Tac.pure, ho] at hp⟩
  split at h
  · rename_i _ _ _ _ _ ho
    simp only [Bool.and_eq_true, inR_iff] at h
    refine ⟨⟨fun u hu => by simp [Tac.uses, ho] at hu; subst hu; omega, by rw [hz]; simp [Tac.sets, ho]; omega⟩, fun hp => by simp [Tac.pure, ho] at hp⟩
  split at h
  · rename_i _ _ _ _ _ _ ho
    simp only [Bool.and_eq_true, inR_iff] at h
    refine ⟨⟨fun u hu => by simp [Tac.uses, ho] at hu; rcases hu with rfl | rfl <;> omega, by rw [hz]; simp [Tac.sets, ho]; omega⟩, fun hp => by simp [Tac.pure, ho] at hp⟩
  split at h
  · rename_i _ _ _ _ _ _ _ ho
    simp only [Bool.and_eq_true, inR_iff] at h
    refine ⟨⟨fun u hu => by simp [Tac.uses, ho] at hu, by rw [hz]; simp [Tac.sets, ho]; omega⟩, fun hp => by simp [Tac.pure, ho] at hp⟩
  split at h
  · rename_i _ _ _ _ _ _ _ _ ho
    simp only [Bool.and_eq_true, inR_iff] at h
    refine ⟨⟨fun u hu => by simp [Tac.uses, ho] at hu; subst hu; omega, by rw [hz]; simp [Tac.sets, ho]; omega⟩, fun hp => by simp [Tac.pure, ho] at hp⟩
  split at h
  · rename_i _ _ _ _ _ _ _ _ _ ho
    refine ⟨⟨fun u hu => by simp [Tac.uses, ho] at hu, by rw [hz]; simp [Tac.sets, ho]; omega⟩, fun hp => by simp [Tac.pure, ho] at hp⟩
  · cases h
theorem one_ok (f : Fn) (number words : Int) (h : f.one number words = true) (hl : f.blocks.length ≤ 900000) (hin : ∀ x ∈ f.blocks, x.ins.length ≤ 900000) : f.ok := by
  unfold Fn.one at h
  simp only [Bool.and_eq_true, decide_eq_true_eq, List.all_eq_true] at h
  obtain ⟨⟨h0, h1, h2⟩, hb⟩ := h
  refine ⟨⟨h0, by omega, by omega, fun x hx => ?_, fun x hx k hk => ?_⟩, fun x hx t ht hp => ?_, hin, hl⟩
  · obtain ⟨he, ht⟩ := hb x hx
    refine ⟨fun t h => (fits_idx t _ _ _ h0 (ht t h)).1, fun h2 => ?_⟩
    unfold Blk.ends at he
    rw [if_neg (by omega), if_pos h2] at he
    simp only [Bool.and_eq_true, inR_iff] at he
    omega
  · obtain ⟨he, _⟩ := hb x hx
    unfold nextB at hk
    unfold Blk.ends at he
    split at hk
    · rename_i hf
      rw [if_pos hf] at he
      simp only [Bool.and_eq_true, inR_iff] at he
      simp at hk; subst hk; exact he.1
    · rename_i hf
      rw [if_neg hf] at he
      split at hk
      · rename_i hf2
        rw [if_pos hf2] at he
        simp only [Bool.and_eq_true, inR_iff] at he
        simp at hk
        rcases hk with rfl | rfl
        · exact he.1.1
        · exact he.1.2
      · cases hk
  · exact (fits_idx t _ _ _ h0 ((hb x hx).2 t ht)).2 hp
theorem countI_mem (l : List Blk) : ∀ x ∈ l, x.ins.length ≤ countI l := by
  induction l with
  | nil => intro x h; cases h
  | cons a l ih =>
    intro x h
    unfold countI at ih ⊢
    simp only [List.map_cons, List.sum_cons]
    rcases List.mem_cons.1 h with h | h
    · rw [h]; omega
    · have := ih x h; omega
theorem few_ok (f : Fn) (h : f.few = true) : f.ok := by
  unfold Fn.few at h
  simp only [Bool.and_eq_true, decide_eq_true_eq] at h
  obtain ⟨⟨⟨h1, _⟩, h2⟩, h3⟩ := h
  exact one_ok f _ _ h3 (by omega) (fun x hx => by have := countI_mem _ x hx; omega)
end Go.Proofs.Ytiaojefhbhodiaa
