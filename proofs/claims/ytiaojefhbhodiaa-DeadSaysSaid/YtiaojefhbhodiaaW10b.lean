/-
  Laws of rows of the call's own, and of what matters, the least.
-/
import Derived.Test.YtiaojefhbhodiaaW10
set_option linter.unusedVariables false
namespace Go.Proofs.Ytiaojefhbhodiaa
open Go.RowKit

theorem cell_below {w w1 : World} {a : Addr} {v : Value} (hb : Below w.heap.size w w1) (h : w.cell? a = some v) : w1.cell? a = some v := (hb.cell (World.block_lt_of_cell? w a h)).trans h
theorem cell_alloc {w : World} {a : Addr} {v : Value} (h : w.cell? a = some v) (o : Obj) : (w.alloc o).cell? a = some v := cell_below (alloc1 w o) h

theorem Mat.form {w : World} {base m : Nat} {rows : List (List Bool)} {v : Value} {gs : List Nat} (h : Mat w base m rows v gs) : ∃ A c, v = .slice A rows.length c ∧ rows.length ≤ c := by
  obtain ⟨hl, _⟩ := h.cel
  rcases h.own.2 with ⟨rfl, h0⟩ | ⟨g, cap, cur, rfl, hg, hh, hcap, _⟩
  · exact ⟨none, 0, by rw [← hl, h0], by omega⟩
  · exact ⟨_, cap, by rw [← hl], by omega⟩
theorem none27' (n m : Nat) (w : World) (hn : n ≤ 1000000) (hm : m ≤ 1000000) :
    Calls Try.prog 31 #[.int .i64 n, .int .i64 m] w
    fun e w' => (∃ A c gs, e = .returned (.slice A n c) ∧ Mat w' w.heap.size m (noRows n m) (.slice A n c) gs) ∧ Below w.heap.size w w' :=
  (none27 n m w hn hm).mono fun e w' h => by
    obtain ⟨⟨v, gs, rfl, hM⟩, hb⟩ := h
    obtain ⟨A, c, rfl, hc⟩ := hM.form
    rw [List.length_replicate] at hM
    exact ⟨⟨A, c, gs, by rw [List.length_replicate], hM⟩, hb⟩

theorem Mat.rebase {w : World} {base base' m : Nat} {rows : List (List Bool)} {v : Value} {gs : List Nat} (h : Mat w base m rows v gs) (hb : base' ≤ base) : Mat w base' m rows v gs :=
  ⟨h.own.rebase fun k hk => by have := h.own.lt k hk; omega, h.cel, h.nodup, fun b hb' => ⟨by have := (h.far b hb').1; omega, (h.far b hb').2⟩, h.wide⟩
theorem Mat.fr {w w' : World} {S : Nat → Prop} {base m : Nat} {rows : List (List Bool)} {v : Value} {gs : List Nat} (h : Mat w base m rows v gs) (hf : Fr S w w') (h1 : ∀ b ∈ gs, ¬ S b) (h2 : ∀ b, v.ownBlock = some b → ¬ S b) : Mat w' base m rows v gs :=
  ⟨h.own.fr hf h2, h.cel.keep fun b hb hlt => hf.block b hlt (h1 b hb), h.nodup, h.far, h.wide⟩

theorem fr_cell {S : Nat → Prop} {w w' : World} {a : Addr} {v : Value} (hf : Fr S w w') (h : w.cell? a = some v) (hS : ¬ S a.block) : w'.cell? a = some v :=
  (World.cell?_of_block (hf.block a.block (World.block_lt_of_cell? w a h) hS)).trans h
theorem Mat.turn {w w' : World} {S : Nat → Prop} {base m : Nat} {rows rows' : List (List Bool)} {v : Value} {gs : List Nat} (h : Mat w base m rows v gs) (hf : Fr S w w') (h2 : ∀ b, v.ownBlock = some b → ¬ S b) (hc : Cel w' gs rows') (hw : ∀ r ∈ rows', r.length = m) : Mat w' base m rows' v gs :=
  ⟨h.own.fr hf h2, hc, h.nodup, h.far, hw⟩
theorem Mat.other {w : World} {base m : Nat} {rows : List (List Bool)} {v : Value} {gs : List Nat} (h : Mat w base m rows v gs) (p : Addr) (x : Value) (hp : p.block < base) : Mat (w.setCell p x) base m rows v gs :=
  h.keep fun b hb _ => Below.heap_setCell w p x b (by omega)
/-- n rows of m. -/
def Wide (n m : Nat) (r : Rows) : Prop := r.length = n ∧ ∀ x ∈ r, x.length = m
theorem Wide.get {n m : Nat} {r : Rows} (h : Wide n m r) (i : Nat) (hi : i < r.length) : r[i].length = m := h.2 _ (List.getElem_mem hi)
theorem Wide.set {n m : Nat} {r : Rows} (h : Wide n m r) (i : Nat) (x : List Bool) (hx : x.length = m) : Wide n m (r.set i x) := by
  refine ⟨by simp [h.1], fun y hy => ?_⟩
  rcases List.mem_or_eq_of_mem_set hy with h1 | h1
  · exact h.2 y h1
  · subst h1; exact hx
theorem Wide.getD {n m : Nat} {r : Rows} (h : Wide n m r) (i : Nat) (hi : i < n) : (r.getD i []).length = m := by
  rw [List.getD_eq_getElem?_getD, List.getElem?_eq_getElem (by rw [h.1]; exact hi)]
  exact h.get i _
theorem noRows_wide (n m : Nat) : Wide n m (noRows n m) := ⟨by simp [noRows], fun x hx => by obtain ⟨_, rfl⟩ := List.mem_replicate.1 hx; simp⟩
def foldOr (I : Rows) (us : List Int) (o : List Bool) : List Bool := us.foldl (fun o k => orRow o (I.getD k.toNat [])) o
theorem foldOr_length {n m : Nat} {I : Rows} (hI : Wide n m I) (us : List Int) (hu : ∀ k ∈ us, 0 ≤ k ∧ k < n) : ∀ (o : List Bool), o.length = m → (foldOr I us o).length = m := by
  induction us with
  | nil => intro o h; exact h
  | cons u us ih =>
    intro o h
    have hu1 := hu u (by simp)
    have := hI.getD u.toNat (by omega)
    exact ih (fun k hk => hu k (by simp [hk])) _ (by rw [orRow_length _ _ (by omega)]; exact h)
theorem foldOr_take (I : Rows) (us : List Int) (o : List Bool) (k : Nat) (h : k < us.length) : foldOr I (us.take (k + 1)) o = orRow (foldOr I (us.take k) o) (I.getD us[k].toNat []) := by
  unfold foldOr
  rw [List.take_succ_eq_append_getElem h, List.foldl_append]
  rfl
theorem stepB_wide {n m : Nat} {x : Blk} {b : Nat} {s : LvS} (hb : b < n) (hI : Wide n m s.I) (hO : Wide n m s.O) (hu : ∀ k ∈ nextB x, 0 ≤ k ∧ k < n) : Wide n m (stepB x b s).I ∧ Wide n m (stepB x b s).O := by
  have h1 := foldOr_length hI (nextB x) hu _ (hO.getD b hb)
  have h2 := hI.getD b hb
  have h3 : (aheadB x (foldOr s.I (nextB x) (s.O.getD b []))).length = m := by rw [aheadB_length, h1]
  exact ⟨hI.set _ _ (by show (orRow (s.I.getD b []) (aheadB x (foldOr s.I (nextB x) (s.O.getD b [])))).length = m; rw [orRow_length _ _ (h2.trans h3.symm)]; exact h2), hO.set _ _ h1⟩
theorem downTo_wide {n m : Nat} {bs : List Blk} {s : LvS} (hn : n = bs.length) (hI : Wide n m s.I) (hO : Wide n m s.O) (hu : ∀ x ∈ bs, ∀ k ∈ nextB x, 0 ≤ k ∧ k < n) : ∀ j, Wide n m (downTo bs s j).I ∧ Wide n m (downTo bs s j).O
  | 0 => ⟨hI, hO⟩
  | j + 1 => by
    have ih := downTo_wide hn hI hO hu j
    unfold downTo
    split
    · rename_i h
      exact stepB_wide (by omega) ih.1 ih.2 (hu _ (List.getElem_mem h))
    · exact ih

/-- What the beginning leaves, in whatever order. -/
theorem ofBegun {W0 wa wb wx : World} {B1 B2 m b : Nat} {I O : Rows} {vi vo : Value} {gi go : List Nat} (M1 : Mat wa B1 m I vi gi) (M2 : Mat wb B2 m O vo go) (h01 : W0.heap.size ≤ B1) (hab : wa.heap.size ≤ B2) (hb' : Below wa.heap.size wa wb)
    (hb : b < B1 ∨ (wa.heap.size ≤ b ∧ b < B2) ∨ wb.heap.size ≤ b) (h0b : W0.heap.size ≤ b) (h0a : B1 ≤ wa.heap.size) (hbx : Bx wx b #[vi, vo] 41) (hf : Fr (fun c => c = b) wb wx) (hB : Below W0.heap.size W0 wx) :
    W0.heap.size ≤ b ∧ Bx wx b #[vi, vo] 41 ∧ Mat wx W0.heap.size m I vi gi ∧ Mat wx W0.heap.size m O vo go ∧
    (∀ x ∈ gi, x ∉ go ∧ x ≠ b ∧ vo.ownBlock ≠ some x) ∧ (∀ x ∈ go, x ≠ b ∧ vi.ownBlock ≠ some x) ∧ Below W0.heap.size W0 wx := by
  have r1 : ∀ x ∈ gi, B1 ≤ x ∧ x < wa.heap.size := fun x hx => ⟨(M1.far x hx).1, M1.cel.lt x hx⟩
  have r2 : ∀ x ∈ go, B2 ≤ x ∧ x < wb.heap.size := fun x hx => ⟨(M2.far x hx).1, M2.cel.lt x hx⟩
  have o1 := M1.own.lt
  have o2 := M2.own.lt
  have hs := hb'.size
  refine ⟨h0b, hbx, ?_, ?_, ?_, ?_, hB⟩
  · exact ((M1.below hb').fr hf (fun x hx e => by have := r1 x hx; omega) (fun x hx e => by have := o1 x hx; omega)).rebase h01
  · exact (M2.fr hf (fun x hx e => by have := r2 x hx; omega) (fun x hx e => by have := o2 x hx; omega)).rebase (by omega)
  · intro x hx
    refine ⟨fun hx2 => ?_, ?_, fun e => ?_⟩
    · have := r1 x hx; have := r2 x hx2; omega
    · have := r1 x hx; omega
    · have := r1 x hx; have := o2 x e; omega
  · intro x hx
    refine ⟨?_, fun e => ?_⟩
    · have := r2 x hx; omega
    · have := r2 x hx; have := o1 x e; omega

/-- May a function's registers and blocks be told? -/
structure Fn.idx (f : Fn) : Prop where
  r0 : 0 ≤ f.regs
  r1 : f.regs ≤ 1000000
  n1 : f.blocks.length ≤ 1000000
  blk : ∀ x ∈ f.blocks, x.idx f.regs.toNat
  nxt : ∀ x ∈ f.blocks, ∀ k ∈ nextB x, 0 ≤ k ∧ k < f.blocks.length

end Go.Proofs.Ytiaojefhbhodiaa
