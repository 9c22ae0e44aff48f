/-
  The plain law of what matters (layer 27) and of what is dead (layer 32): Lean functions over lists, no program in sight.
-/
import Derived.Test.YtiaojefhbhodiaaW9
import Derived.Test.YtiaojefhbhodiaaW6
set_option linter.unusedVariables false
namespace Go.Proofs.Ytiaojefhbhodiaa

abbrev Rows := List (List Bool)
def orRow (a b : List Bool) : List Bool := List.zipWith (fun x y => x || y) a b
/-- Is there something new in the second one? -/
def newIn (a b : List Bool) : Bool := (List.zipWith (fun x y => y && !x) a b).any id
def falses (a : List Bool) : Nat := a.countP (fun x => !x)
def allFalses (r : Rows) : Nat := (r.map falses).sum

theorem falses_or (a b : List Bool) : falses (orRow a b) ≤ falses a := by
  induction a generalizing b with
  | nil => simp [orRow, falses]
  | cons x a ih =>
    cases b with
    | nil => simp [orRow, falses]
    | cons y b =>
      have := ih b
      unfold falses orRow at this ⊢
      cases x <;> cases y <;> simp_all <;> omega
theorem falses_new (a b : List Bool) (h : newIn a b = true) : falses (orRow a b) < falses a := by
  induction a generalizing b with
  | nil => simp [newIn] at h
  | cons x a ih =>
    cases b with
    | nil => simp [newIn] at h
    | cons y b =>
      have h1 := falses_or a b
      have h2 := ih b
      unfold falses orRow newIn at *
      cases x <;> cases y <;> simp_all <;> omega
theorem newIn_false (a b : List Bool) (hl : a.length ≤ b.length) (h : newIn a b = false) : orRow a b = a := by
  induction a generalizing b with
  | nil => simp [orRow]
  | cons x a ih =>
    cases b with
    | nil => simp at hl
    | cons y b =>
      have h2 := ih b (by simpa using hl)
      unfold orRow newIn at *
      cases x <;> cases y <;> simp_all

structure LvS where
  I : Rows
  O : Rows
  more : Bool

/-- What a block's turn does. -/
def outOf (x : Blk) (I : Rows) (o : List Bool) : List Bool := (nextB x).foldl (fun o k => orRow o (I.getD k.toNat [])) o
def stepB (x : Blk) (b : Nat) (s : LvS) : LvS :=
  let o := outOf x s.I (s.O.getD b [])
  let inn := aheadB x o
  ⟨s.I.set b (orRow (s.I.getD b []) inn), s.O.set b o, newIn (s.I.getD b []) inn || s.more⟩
/-- The turns of the blocks from the last one down to that of a number. -/
def downTo (bs : List Blk) (s : LvS) : Nat → LvS
  | 0 => s
  | j + 1 => if h : bs.length - (j + 1) < bs.length then stepB bs[bs.length - (j + 1)] (bs.length - (j + 1)) (downTo bs s j) else downTo bs s j
def passB (bs : List Blk) (I O : Rows) : LvS := downTo bs ⟨I, O, false⟩ bs.length

theorem allFalses_set (r : Rows) (b : Nat) (x : List Bool) (h : falses x ≤ falses (r.getD b [])) : allFalses (r.set b x) ≤ allFalses r := by
  induction r generalizing b with
  | nil => simp
  | cons a r ih =>
    cases b with
    | zero => simp [allFalses] at h ⊢; omega
    | succ b => have := ih b (by simpa using h); simp [allFalses] at this ⊢; omega
theorem allFalses_set_lt (r : Rows) (b : Nat) (x : List Bool) (h : falses x < falses (r.getD b [])) : allFalses (r.set b x) < allFalses r := by
  induction r generalizing b with
  | nil => simp [falses] at h
  | cons a r ih =>
    cases b with
    | zero => simp [allFalses] at h ⊢; omega
    | succ b => have := ih b (by simpa using h); simp [allFalses] at this ⊢; omega

theorem stepB_le (x : Blk) (b : Nat) (s : LvS) : allFalses (stepB x b s).I ≤ allFalses s.I := allFalses_set _ _ _ (falses_or _ _)
theorem stepB_lt (x : Blk) (b : Nat) (s : LvS) (h : (stepB x b s).more = true) : s.more = true ∨ allFalses (stepB x b s).I < allFalses s.I := by
  simp only [stepB, Bool.or_eq_true] at h
  rcases h with h | h
  · exact .inr (allFalses_set_lt _ _ _ (falses_new _ _ h))
  · exact .inl h
theorem downTo_le (bs : List Blk) (s : LvS) (j : Nat) : allFalses (downTo bs s j).I ≤ allFalses s.I := by
  induction j with
  | zero => exact Nat.le_refl _
  | succ j ih =>
    unfold downTo
    split
    · exact Nat.le_trans (stepB_le _ _ _) ih
    · exact ih
theorem downTo_lt (bs : List Blk) (s : LvS) (j : Nat) (hs : s.more = false) (h : (downTo bs s j).more = true) : allFalses (downTo bs s j).I < allFalses s.I := by
  induction j with
  | zero => unfold downTo at h; rw [hs] at h; cases h
  | succ j ih =>
    unfold downTo at h ⊢
    split at h
    · rename_i hlt
      rw [dif_pos hlt]
      rcases stepB_lt _ _ _ h with h1 | h1
      · exact Nat.lt_of_le_of_lt (stepB_le _ _ _) (ih h1)
      · exact Nat.lt_of_lt_of_le h1 (downTo_le _ _ _)
    · rename_i hlt
      rw [dif_neg hlt]
      exact ih h

/-- What matters, round by round, until nothing is added. -/
def liveGo (bs : List Blk) (I O : Rows) : LvS :=
  if h : (passB bs I O).more = true then liveGo bs (passB bs I O).I (passB bs I O).O else passB bs I O
termination_by allFalses I
decreasing_by exact downTo_lt bs ⟨I, O, false⟩ bs.length rfl h

def noRows (n m : Nat) : Rows := List.replicate n (List.replicate m false)
structure Lv where
  In : Rows
  Out : Rows
def Fn.live (f : Fn) : Lv := let s := liveGo f.blocks (noRows f.blocks.length f.regs.toNat) (noRows f.blocks.length f.regs.toNat); ⟨s.I, s.O⟩

/-- What matters behind each instruction of a list, of what matters behind all. -/
def behindB : List Tac → List Bool → Rows
  | [], _ => []
  | t :: l, s => l.foldr backB s :: behindB l s
def Lv.behind (l : Lv) (x : Blk) (b : Nat) : Rows := behindB x.ins (lastB x (l.Out.getD b []))

/-- What of a block isn't dead. -/
def keepB : List Tac → Rows → List Tac
  | t :: l, r :: rs => if t.pure && !(r.getD t.sets.toNat false) then keepB l rs else t :: keepB l rs
  | _, _ => []
def onceBlk (l : Lv) (x : Blk) (b : Nat) : Blk := ⟨keepB x.ins (l.behind x b), x.fin, x.v, x.to, x.els⟩
def Fn.once (f : Fn) : Fn := ⟨f.regs, f.blocks.mapIdx fun b x => onceBlk f.live x b⟩
def Fn.count (f : Fn) : Nat := countI f.blocks

theorem keepB_le (l : List Tac) : ∀ rs : Rows, (keepB l rs).length ≤ l.length := by
  induction l with
  | nil => intro rs; simp [keepB]
  | cons t l ih =>
    intro rs
    cases rs with
    | nil => simp [keepB]
    | cons r rs =>
      have := ih rs
      unfold keepB
      split <;> simp <;> omega
theorem once_le (f : Fn) : f.once.count ≤ f.count := by
  unfold Fn.count countI Fn.once
  suffices h : ∀ (l : List Blk) (k : Nat), (List.map (fun x => x.ins.length) (List.mapIdx (fun b x => onceBlk f.live x (b + k)) l)).sum ≤ (List.map (fun x => x.ins.length) l).sum from h f.blocks 0
  intro l
  induction l with
  | nil => intro k; simp
  | cons x l ih =>
    intro k
    have h1 := ih (k + 1)
    have h2 := keepB_le x.ins (f.live.behind x (0 + k))
    simp only [List.mapIdx_cons, List.map_cons, List.sum_cons]
    have e : (fun (b : Nat) x => onceBlk f.live x (b + 1 + k)) = fun b x => onceBlk f.live x (b + (k + 1)) := by funext b x; congr 1; omega
    rw [e]
    unfold onceBlk at h1 ⊢
    simp only at h1 h2 ⊢
    omega
/-- Without what is dead, as long as there is something. -/
def Fn.dead (f : Fn) : Fn := if h : f.once.count < f.count then f.once.dead else f.once
termination_by f.count
end Go.Proofs.Ytiaojefhbhodiaa
