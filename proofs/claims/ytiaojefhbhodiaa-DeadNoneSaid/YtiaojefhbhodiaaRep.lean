/-
  How plain data lie in memory: cells, slices of whatever, structs; and what keeps them.
-/
import Derived.WalkKit
import Derived.Lib.Hide
import Derived.Maps.AppendAt
import Derived.WalkSpells
import Derived.Deep.Draws
set_option linter.unusedVariables false
namespace Go.Proofs.Ytiaojefhbhodiaa
open Go.RowKit

/-- A row of cells, from an offset on. -/
def Row (w : World) (g o : Nat) (cs : List Value) : Prop := ∀ i (h : i < cs.length), w.cell? ⟨g, o + i, none⟩ = some cs[i]

/-- How data of a kind are told by cells: 'ok' says in which blocks they may lie. -/
structure Rep (α : Type) where
  sz : Nat
  pos : 0 < sz
  is : World → (Nat → Prop) → α → List Value → Prop
  len : ∀ {w ok x cs}, is w ok x cs → cs.length = sz
  one : ∀ {w ok x cs}, is w ok x cs → ∀ u ∈ cs, u.oneCell' = true
  keep : ∀ {w w' ok x cs}, is w ok x cs → (∀ b, ok b → b < w.heap.size → w'.heap[b]? = w.heap[b]?) → w.heap.size ≤ w'.heap.size → is w' ok x cs
  mono : ∀ {w ok ok' x cs}, is w ok x cs → (∀ b, ok b → b < w.heap.size → ok' b) → is w ok' x cs

/-- A slice that reads as a list. -/
def Sl {α : Type} (d : Rep α) (w : World) (ok : Nat → Prop) (xs : List α) (v : Value) : Prop :=
  ∃ A n c, v = .slice A n c ∧ n = xs.length ∧ n ≤ c ∧ n ≤ 140737488355328 ∧
    (xs ≠ [] → ∃ g o, A = some ⟨g, o, none⟩ ∧ ok g ∧ g < w.heap.size ∧ ∀ i (h : i < xs.length), ∃ cs, d.is w ok xs[i] cs ∧ Row w g (o + i * d.sz) cs)

theorem Row.keep {w w' : World} {g o : Nat} {cs : List Value} (h : Row w g o cs) (hk : w'.heap[g]? = w.heap[g]?) : Row w' g o cs :=
  fun i hi => (World.cell?_of_block (w := w) (a := ⟨g, o + i, none⟩) hk).trans (h i hi)

theorem Sl.keep {α : Type} {d : Rep α} {w w' : World} {ok : Nat → Prop} {xs : List α} {v : Value} (h : Sl d w ok xs v)
    (hk : ∀ b, ok b → b < w.heap.size → w'.heap[b]? = w.heap[b]?) (hs : w.heap.size ≤ w'.heap.size) : Sl d w' ok xs v := by
  obtain ⟨A, n, c, hv, hn, hc, hm, h⟩ := h
  refine ⟨A, n, c, hv, hn, hc, hm, fun hne => ?_⟩
  obtain ⟨g, o, hA, hg, hlt, hr⟩ := h hne
  refine ⟨g, o, hA, hg, by omega, fun i hi => ?_⟩
  obtain ⟨cs, h1, h2⟩ := hr i hi
  exact ⟨cs, d.keep h1 hk hs, h2.keep (hk g hg hlt)⟩

theorem Sl.mono {α : Type} {d : Rep α} {w : World} {ok ok' : Nat → Prop} {xs : List α} {v : Value} (h : Sl d w ok xs v)
    (hk : ∀ b, ok b → b < w.heap.size → ok' b) : Sl d w ok' xs v := by
  obtain ⟨A, n, c, hv, hn, hc, hm, h⟩ := h
  refine ⟨A, n, c, hv, hn, hc, hm, fun hne => ?_⟩
  obtain ⟨g, o, hA, hg, hlt, hr⟩ := h hne
  refine ⟨g, o, hA, hk g hg hlt, hlt, fun i hi => ?_⟩
  obtain ⟨cs, h1, h2⟩ := hr i hi
  exact ⟨cs, d.mono h1 hk, h2⟩

theorem Sl.below {α : Type} {d : Rep α} {w w' : World} {ok : Nat → Prop} {xs : List α} {v : Value} (h : Sl d w ok xs v) (hb : Below w.heap.size w w') : Sl d w' ok xs v :=
  h.keep (fun b _ hb' => hb.block b hb') hb.size

theorem Sl.nil {α : Type} (d : Rep α) (w : World) (ok : Nat → Prop) : Sl d w ok [] (.slice none 0 0) :=
  ⟨none, 0, 0, rfl, rfl, Nat.le_refl _, by omega, fun h => absurd rfl h⟩

/-- The form of a slice. -/
theorem Sl.form {α : Type} {d : Rep α} {w : World} {ok : Nat → Prop} {xs : List α} {v : Value} (h : Sl d w ok xs v) :
    ∃ A c, v = .slice A xs.length c ∧ xs.length ≤ c ∧ xs.length ≤ 140737488355328 := by
  obtain ⟨A, n, c, hv, hn, hc, hm, h⟩ := h
  subst hn
  exact ⟨A, c, hv, hc, hm⟩

/-- An element's cells. -/
theorem Sl.at {α : Type} {d : Rep α} {w : World} {ok : Nat → Prop} {xs : List α} {A : Option Addr} {n c : Nat} (h : Sl d w ok xs (.slice A n c)) (i : Nat) (hi : i < xs.length) :
    ∃ g o cs, A = some ⟨g, o, none⟩ ∧ ok g ∧ g < w.heap.size ∧ d.is w ok xs[i] cs ∧ Row w g (o + i * d.sz) cs := by
  obtain ⟨A', n', c', hv, hn, hc, hm, h⟩ := h
  cases hv
  obtain ⟨g, o, hA, hg, hlt, hr⟩ := h (by intro e; subst e; simp at hi)
  obtain ⟨cs, h1, h2⟩ := hr i hi
  exact ⟨g, o, cs, hA, hg, hlt, h1, h2⟩

/-! ### Kinds -/
def Rep.scalar {α : Type} (enc : α → Value) (h1 : ∀ x, (enc x).oneCell' = true) : Rep α where
  sz := 1
  pos := by omega
  is _ _ x cs := cs = [enc x]
  len h := by subst h; rfl
  one h := by subst h; intro u hu; simp at hu; subst hu; exact h1 _
  keep h _ _ := h
  mono h _ := h

abbrev RI : Rep Int := .scalar (Value.int .i64) (fun _ => rfl)
abbrev RU : Rep Int := .scalar (Value.int .u32) (fun _ => rfl)
abbrev RY : Rep Int := .scalar (Value.int .u8) (fun _ => rfl)
abbrev RB : Rep Bool := .scalar Value.bool (fun _ => rfl)

theorem slice_oneCell (A : Option Addr) (n c : Nat) : (Value.slice A n c).oneCell' = true := rfl

def Rep.slice {α : Type} (d : Rep α) : Rep (List α) where
  sz := 1
  pos := by omega
  is w ok xs cs := ∃ v, cs = [v] ∧ Sl d w ok xs v
  len h := by obtain ⟨v, rfl, _⟩ := h; rfl
  one h := by obtain ⟨v, rfl, A, n, c, rfl, _⟩ := h; intro u hu; simp at hu; subst hu; rfl
  keep h hk hs := by obtain ⟨v, rfl, h⟩ := h; exact ⟨v, rfl, h.keep hk hs⟩
  mono h hk := by obtain ⟨v, rfl, h⟩ := h; exact ⟨v, rfl, h.mono hk⟩

/-! ### A block that is known whole -/
/-- Block b holds these cells, and no others. -/
def Bx (w : World) (b : Nat) (cs : Array Value) (t : TypeId) : Prop := w.heap[b]? = some (.cells cs t (0, 0))
theorem Bx.lt {w : World} {b : Nat} {cs : Array Value} {t : TypeId} (h : Bx w b cs t) : b < w.heap.size := (Array.getElem?_eq_some_iff.1 h).1
theorem Bx.cell {w : World} {b : Nat} {cs : Array Value} {t : TypeId} (h : Bx w b cs t) (j : Nat) : w.cell? ⟨b, j, none⟩ = cs[j]? := by
  unfold Bx at h; simp [World.cell?, h]
theorem Bx.frozen {w : World} {b : Nat} {cs : Array Value} {t : TypeId} (h : Bx w b cs t) (j : Nat) : w.frozen? ⟨b, j, none⟩ = false := by
  unfold Bx at h; simp [World.frozen?, h]
theorem Bx.keep {w w' : World} {b : Nat} {cs : Array Value} {t : TypeId} (h : Bx w b cs t) (hk : w'.heap[b]? = w.heap[b]?) : Bx w' b cs t := hk.trans h
theorem Bx.below {w w' : World} {b : Nat} {cs : Array Value} {t : TypeId} (h : Bx w b cs t) (hb : Below w.heap.size w w') : Bx w' b cs t := h.keep (hb.block b h.lt)
theorem Bx.new (w : World) (cs : Array Value) (t : TypeId) : Bx (w.alloc (.cells cs t)) w.heap.size cs t := heap_alloc_new w _
theorem Bx.new' {w : World} {b : Nat} {cs : Array Value} {t : TypeId} (h : b = w.heap.size) : Bx (w.alloc (.cells cs t)) b cs t := by subst h; exact heap_alloc_new w _
theorem Bx.alloc {w : World} {b : Nat} {cs : Array Value} {t : TypeId} (h : Bx w b cs t) (o : Obj) : Bx (w.alloc o) b cs t := h.keep (Below.heap_alloc w o b h.lt)
theorem Bx.drew {w : World} {b : Nat} {cs : Array Value} {t : TypeId} (h : Bx w b cs t) : Bx w.drew b cs t := h
theorem Bx.set {w : World} {b : Nat} {cs : Array Value} {t : TypeId} (h : Bx w b cs t) (j : Nat) (v : Value) : Bx (w.setCell ⟨b, j, none⟩ v) b (cs.setIfInBounds j v) t := by
  unfold Bx at h ⊢
  simp [World.setCell, Array.getElem?_modify, h]
theorem Bx.other {w : World} {b : Nat} {cs : Array Value} {t : TypeId} (h : Bx w b cs t) (a : Addr) (v : Value) (hne : b ≠ a.block) : Bx (w.setCell a v) b cs t :=
  h.keep (Below.heap_setCell w a v b hne)

/-- A whole block of scalars reads as a list. -/
theorem Sl.of_bx {α : Type} {enc : α → Value} {h1 : ∀ x, (enc x).oneCell' = true} {w : World} {b : Nat} {t : TypeId} {ok : Nat → Prop} (xs : List α) (c : Nat) {cs : Array Value} (h : Bx w b cs t) (hcs : cs = (xs.map enc).toArray) (hok : ok b) (hc : xs.length ≤ c) (hn : xs.length ≤ 140737488355328) {v : Value} (hv : v = .slice (some ⟨b, 0, none⟩) xs.length c) :
    Sl (Rep.scalar enc h1) w ok xs v := by
  subst hcs
  subst hv
  refine ⟨_, _, c, rfl, rfl, hc, hn, fun _ => ⟨b, 0, rfl, hok, h.lt, fun i hi => ⟨[enc xs[i]], rfl, fun j hj => ?_⟩⟩⟩
  simp at hj
  subst hj
  rw [h.cell]
  simp [Rep.scalar, hi]

theorem Sl.drew {α : Type} {d : Rep α} {w : World} {ok : Nat → Prop} {xs : List α} {v : Value} (h : Sl d w ok xs v) : Sl d w.drew ok xs v := h.below ((Below.refl _ _).drew)

/-! ### What a call may turn: blocks S of those that lay, and new ones -/
structure Fr (S : Nat → Prop) (w w' : World) : Prop where
  os : w'.os = w.os
  tape : w'.tape = w.tape
  output : w'.output = w.output
  size : w.heap.size ≤ w'.heap.size
  block : ∀ k, k < w.heap.size → ¬ S k → w'.heap[k]? = w.heap[k]?
theorem Fr.refl (S : Nat → Prop) (w : World) : Fr S w w := ⟨rfl, rfl, rfl, Nat.le_refl _, fun _ _ _ => rfl⟩
theorem Fr.trans {S : Nat → Prop} {a b c : World} (h : Fr S a b) (k : Fr S b c) : Fr S a c :=
  ⟨k.os.trans h.os, k.tape.trans h.tape, k.output.trans h.output, Nat.le_trans h.size k.size, fun i hi hs => (k.block i (Nat.lt_of_lt_of_le hi h.size) hs).trans (h.block i hi hs)⟩
/-- Two steps; what the second one turns is new, or may be turned. -/
theorem Fr.step {S T : Nat → Prop} {a b c : World} (h : Fr S a b) (k : Fr T b c) (hT : ∀ i, i < a.heap.size → T i → S i) : Fr S a c :=
  ⟨k.os.trans h.os, k.tape.trans h.tape, k.output.trans h.output, Nat.le_trans h.size k.size, fun i hi hs => (k.block i (Nat.lt_of_lt_of_le hi h.size) (fun ht => hs (hT i hi ht))).trans (h.block i hi hs)⟩
theorem Fr.mono {S T : Nat → Prop} {a b : World} (h : Fr S a b) (hT : ∀ i, i < a.heap.size → S i → T i) : Fr T a b :=
  ⟨h.os, h.tape, h.output, h.size, fun i hi hs => h.block i hi (fun k => hs (hT i hi k))⟩
theorem Fr.alloc {S : Nat → Prop} {a w : World} (h : Fr S a w) (o : Obj) : Fr S a (w.alloc o) :=
  h.trans ⟨rfl, rfl, rfl, by simp, fun k hk _ => Below.heap_alloc _ _ _ hk⟩
theorem Fr.drew {S : Nat → Prop} {a w : World} (h : Fr S a w) : Fr S a w.drew := ⟨h.os, h.tape, h.output, h.size, h.block⟩
theorem Fr.drewN {S : Nat → Prop} {a w : World} (h : Fr S a w) (n : Nat) : Fr S a (w.drewN n) := ⟨h.os, h.tape, h.output, h.size, h.block⟩
theorem Fr.setCell {S : Nat → Prop} {a w : World} (h : Fr S a w) {p : Addr} (hp : p.block < a.heap.size → S p.block) (u : Value) : Fr S a (w.setCell p u) :=
  h.step (T := fun k => k = p.block) ⟨rfl, rfl, rfl, by simp [World.setCell], fun k _ hk => Below.heap_setCell _ _ _ _ hk⟩ (fun i hi e => by subst e; exact hp hi)
theorem Fr.grown {S : Nat → Prop} {a w w' : World} {row : Option Nat} (h : Fr S a w) (hg : w.grownBy w' row) (hr : ∀ k, row = some k → k < a.heap.size → S k) : Fr S a w' :=
  h.step (T := fun k => some k = row) ⟨hg.os, hg.tape, hg.output, hg.size, fun k hk hne => hg.block k hk hne⟩ (fun i hi e => hr i e.symm hi)
theorem Fr.of_below {w w' : World} (h : Below w.heap.size w w') (S : Nat → Prop) : Fr S w w' := ⟨h.os, h.tape, h.output, h.size, fun k hk _ => h.block k hk⟩
theorem Fr.below {w w' : World} (h : Fr (fun _ => False) w w') : Below w.heap.size w w' := ⟨h.os, h.tape, h.output, h.size, fun k hk => h.block k hk id⟩
theorem below_drewN {B : Nat} {w w' : World} (h : Below B w w') (n : Nat) : Below B w (w'.drewN n) := ⟨h.os, h.tape, h.output, h.size, h.block⟩
theorem Fr.call {S : Nat → Prop} {a w w' : World} (h : Fr S a w) (hb : Below w.heap.size w w') : Fr S a w' := h.trans (.of_below hb S)
theorem Fr.keeps {S : Nat → Prop} {w w' : World} (h : Fr S w w') {b : Nat} (hb : b < w.heap.size) (hs : ¬ S b) : w'.heap[b]? = w.heap[b]? := h.block b hb hs
theorem Fr.cells {S : Nat → Prop} {w w' : World} (h : Fr S w w') : ∀ b o, b < w.heap.size → ¬ S b → w'.cell? ⟨b, o, none⟩ = w.cell? ⟨b, o, none⟩ :=
  fun b o hb hs => World.cell?_of_block (h.block b hb hs)
theorem Fr.frozens {S : Nat → Prop} {w w' : World} (h : Fr S w w') : ∀ b o, b < w.heap.size → ¬ S b → w'.frozen? ⟨b, o, none⟩ = w.frozen? ⟨b, o, none⟩ :=
  fun b o hb hs => World.frozen?_of_block (h.block b hb hs)
theorem bcells {w w' : World} (h : Below w.heap.size w w') : (∀ b o, b < w.heap.size → w'.cell? ⟨b, o, none⟩ = w.cell? ⟨b, o, none⟩) ∧ (∀ b o, b < w.heap.size → w'.frozen? ⟨b, o, none⟩ = w.frozen? ⟨b, o, none⟩) :=
  ⟨fun b o hb => h.cell (p := ⟨b, o, none⟩) hb, fun b o hb => h.frozen (p := ⟨b, o, none⟩) hb⟩
theorem Sl.fr {α : Type} {d : Rep α} {w w' : World} {ok S : Nat → Prop} {xs : List α} {v : Value} (h : Sl d w ok xs v) (hf : Fr S w w') (hd : ∀ b, ok b → b < w.heap.size → ¬ S b) : Sl d w' ok xs v :=
  h.keep (fun b hok hb => hf.block b hb (hd b hok hb)) hf.size
theorem Bx.fr {w w' : World} {S : Nat → Prop} {b : Nat} {cs : Array Value} {t : TypeId} (h : Bx w b cs t) (hf : Fr S w w') (hd : ¬ S b) : Bx w' b cs t := h.keep (hf.block b h.lt hd)

/-! ### The world under a name -/
theorem name_world {P : Program} {c : Code} {Q : Exit → Act → World → Prop} {a : Act} {w : World} (h : ∀ W, W = w → c.wp P Q a W) : c.wp P Q a w := h w rfl
theorem name_world_list {P : Program} {ops : Array Oper} {l : List Oper} {Q : Exit → Act → World → Prop} {a : Act} {w : World} (h : ∀ W, W = w → wpList P ops Q l a W) : wpList P ops Q l a w := h w rfl
theorem cells_eq {W w : World} (h : W = w) : (∀ b o, W.cell? ⟨b, o, none⟩ = w.cell? ⟨b, o, none⟩) ∧ (∀ b o, W.frozen? ⟨b, o, none⟩ = w.frozen? ⟨b, o, none⟩) := by subst h; exact ⟨fun _ _ => rfl, fun _ _ => rfl⟩

/-- A loop with a relation over what you name, that leaves either by its relation or by the way out. -/
theorem ret_bool {a b : Bool} (h : a = b) : Ending.returned (.bool a) = .returned (.bool b) := by rw [h]
theorem ret_int {k : IntKind} {a b : Int} (h : a = b) : Ending.returned (.int k a) = .returned (.int k b) := by rw [h]

/-! ### Rows of the call's own, that grow -/
/-- v is a slice of the call's own (nil, or from its block's head on, in block base or beyond), to which may be appended; what its elements lead to lies in blocks ok, never in its own. -/
def Own {α : Type} (d : Rep α) (e : TypeId) (w : World) (base : Nat) (ok : Nat → Prop) (xs : List α) (v : Value) : Prop :=
  ∃ css : List (List Value), css.length = xs.length ∧ (∀ i (h : i < xs.length) (h' : i < css.length), d.is w ok xs[i] css[i]) ∧ w.ownsRow base e d.sz v xs.length css.flatten ∧ (∀ k, v.ownBlock = some k → ¬ ok k)

theorem Own.nil {α : Type} (d : Rep α) (e : TypeId) (w : World) (base : Nat) (ok : Nat → Prop) : Own d e w base ok [] (.slice none 0 0) :=
  ⟨[], rfl, fun i h => by simp at h, World.ownsRow_nil w base e d.sz, fun k hk => by simp [Value.ownBlock] at hk⟩

theorem Own.lt {α : Type} {d : Rep α} {e : TypeId} {w : World} {base : Nat} {ok : Nat → Prop} {xs : List α} {v : Value} (h : Own d e w base ok xs v) : ∀ k, v.ownBlock = some k → base ≤ k ∧ k < w.heap.size := by
  obtain ⟨css, _, _, h, _⟩ := h
  exact h.lt

theorem flatten_get {β : Type} (sz : Nat) : ∀ (css : List (List β)), (∀ c ∈ css, c.length = sz) → ∀ (i j : Nat) (hi : i < css.length) (hj : j < sz) (c : List β), css[i]? = some c → css.flatten[i * sz + j]? = c[j]? := by
  intro css
  induction css with
  | nil => intro _ i j hi; simp at hi
  | cons c0 r ih =>
    intro hl i j hi hj c hc
    have h0 : c0.length = sz := hl c0 (by simp)
    cases i with
    | zero =>
      simp at hc
      subst hc
      simp only [Nat.zero_mul, Nat.zero_add, List.flatten_cons]
      rw [List.getElem?_append_left (by omega)]
    | succ i =>
      simp only [List.flatten_cons]
      rw [List.getElem?_append_right (by rw [h0, Nat.add_mul]; omega), h0]
      have := ih (fun c hc => hl c (by simp [hc])) i j (by simpa using hi) hj c (by simpa using hc)
      rw [← this]
      congr 1
      rw [Nat.add_mul]
      omega

/-- What is owned reads. -/
theorem Own.sl {α : Type} {d : Rep α} {e : TypeId} {w : World} {base : Nat} {ok ok' : Nat → Prop} {xs : List α} {v : Value} (h : Own d e w base ok xs v) (hok : ∀ b, ok b → b < w.heap.size → ok' b)
    (hown : ∀ k, v.ownBlock = some k → ok' k) (hn : xs.length ≤ 140737488355328) : Sl d w ok' xs v := by
  obtain ⟨css, hl, hi, hrow, hne⟩ := h
  have hlt := hrow.lt
  have hcells := @World.ownsRow.cells _ _ _ _ _ _ _ hrow
  rcases hrow with ⟨h1, ⟨rfl, h0⟩ | ⟨g, cap, cur, rfl, hg, hh, hnc, hcm, hcs, htake⟩⟩
  · have : xs = [] := List.eq_nil_of_length_eq_zero h0
    subst this
    exact Sl.nil d w ok'
  · refine ⟨_, _, cap, rfl, rfl, hnc, hn, fun _ => ⟨g, 0, rfl, hown g rfl, (hlt g rfl).2, fun i hi' => ?_⟩⟩
    have hi2 : i < css.length := by omega
    have hd := hi i hi' hi2
    refine ⟨css[i], d.mono hd hok, fun j hj => ?_⟩
    have hj' : j < d.sz := by rw [← d.len hd]; exact hj
    have hget := flatten_get d.sz css (fun c hc => by
      obtain ⟨k, hk, rfl⟩ := List.getElem_of_mem hc
      exact d.len (hi k (by omega) hk)) i j hi2 hj' css[i] (by simp)
    have := hcells (g := g) rfl (i * d.sz + j) (css[i][j]) (by rw [hget]; simp)
    have hadd : (⟨g, 0, none⟩ : Addr).add (i * d.sz + j) = ⟨g, 0 + i * d.sz + j, none⟩ := by unfold Addr.add; split <;> simp_all
    rw [← hadd]
    exact this

theorem Own.keep {α : Type} {d : Rep α} {e : TypeId} {w w' : World} {base : Nat} {ok : Nat → Prop} {xs : List α} {v : Value} (h : Own d e w base ok xs v)
    (hk : ∀ b, ok b ∨ v.ownBlock = some b → b < w.heap.size → w'.heap[b]? = w.heap[b]?) (hs : w.heap.size ≤ w'.heap.size) : Own d e w' base ok xs v := by
  obtain ⟨css, hl, hi, hrow, hne⟩ := h
  refine ⟨css, hl, fun i h1 h2 => d.keep (hi i h1 h2) (fun b hb hlt => hk b (.inl hb) hlt) hs, ?_, hne⟩
  refine ⟨hrow.1, ?_⟩
  rcases hrow.2 with h0 | ⟨g, cap, cur, rfl, hg, hh, r⟩
  · exact .inl h0
  · exact .inr ⟨g, cap, cur, rfl, hg, (hk g (.inr rfl) (Array.getElem?_eq_some_iff.1 hh).1).trans hh, r⟩

theorem Own.below {α : Type} {d : Rep α} {e : TypeId} {w w' : World} {base : Nat} {ok : Nat → Prop} {xs : List α} {v : Value} (h : Own d e w base ok xs v) (hb : Below w.heap.size w w') : Own d e w' base ok xs v :=
  h.keep (fun b _ hlt => hb.block b hlt) hb.size
theorem Own.mono {α : Type} {d : Rep α} {e : TypeId} {w : World} {base : Nat} {ok ok' : Nat → Prop} {xs : List α} {v : Value} (h : Own d e w base ok xs v) (hok : ∀ b, ok b → b < w.heap.size → ok' b) (hne : ∀ k, v.ownBlock = some k → ¬ ok' k) : Own d e w base ok' xs v := by
  obtain ⟨css, hl, hi, hrow, _⟩ := h
  exact ⟨css, hl, fun i h1 h2 => d.mono (hi i h1 h2) hok, hrow, hne⟩

/-- append(v, x): the goal's world is that in which x lies in a new block of its own. -/
theorem Own.append {P : Program} {ops : Array Oper} {rest : List Oper} {o : Oper} {a : Act} {Q : Exit → Act → World → Prop} {α : Type} (d : Rep α) (hgd : o.guard = none) (s x : Operand) (t e : TypeId) (z : Value) (bytes : Nat)
    (ho : o.op = .call { callee := .builtin .append, args := #[s, x], argTypes := #[t, t] })
    (ht : P.underlying t = some (.slice e)) (hinfo : (P.info? e).map (fun i => (i.zero, i.size, i.bytes)) = some (some z, d.sz, bytes)) (hz : z.cells.size = d.sz)
    (base : Nat) (ok : Nat → Prop) (W : World) (v : Value) (xs : List α) (y : α) (cs : List Value) (hs : a.eval s = v) (hx : a.eval x = .slice (some ⟨W.heap.size, 0, none⟩) 1 1)
    (HO : Own d e W base ok xs v) (hy : d.is W ok y cs) (hbase : base ≤ W.heap.size) (hok : ∀ b, ok b → b < W.heap.size) (h63 : xs.length + 1 ≤ 1000000) (hby : bytes ≤ 1000000)
    (h : ∀ v1 w1, Own d e w1 base ok (xs ++ [y]) v1 → W.grownBy w1 v.ownBlock → (v1.ownBlock = v.ownBlock ∨ ∃ b, v1.ownBlock = some b ∧ W.heap.size < b) → (∃ g c, v1 = .slice (some ⟨g, 0, none⟩) (xs.length + 1) c) → wpList P ops Q rest (a.put o.dst v1) w1) :
    wpList P ops Q (o :: rest) a (W.alloc (.cells cs.toArray e)) := by
  obtain ⟨i0, hi, hzz⟩ := Option.map_eq_some_iff.1 hinfo
  simp only [Prod.mk.injEq] at hzz
  obtain ⟨hz0, hz1, hz2⟩ := hzz
  have hlen := d.len hy
  obtain ⟨css, hl, hel, hrow, hne⟩ := HO
  have hcsz : ∀ u ∈ cs, u.oneCell' = true := d.one hy
  have hbig : (xs.length + 1) * bytes ≤ 140737488355328 := Nat.le_trans (Nat.mul_le_mul h63 hby) (by omega)
  refine wpList_append_own_at (W.alloc (.cells cs.toArray e)) hgd s x t ho base e i0 z d.sz bytes ht hi hz0 hz1 hz2 hz d.pos v xs.length css.flatten hs (hrow.alloc _) ⟨W.heap.size, 0, none⟩ 1 1 cs hx (by omega) ?_ hcsz
    (by simp only [maxLen]; omega) hbig (by simp; omega) ?_
  · intro j u hu
    have hadd : (⟨W.heap.size, 0, none⟩ : Addr).add j = ⟨W.heap.size, j, none⟩ := by unfold Addr.add; split <;> simp_all
    rw [hadd]
    have := (Bx.new W cs.toArray e).cell j
    rw [this]
    simpa using hu
  · intro v1 w1 hown hg _ hat
    have hsize : W.heap.size < w1.heap.size := by have := hg.size; simp at this; omega
    have hkeep : ∀ b, ok b → b < W.heap.size → w1.heap[b]? = W.heap[b]? := fun b hb hlt =>
      (hg.block b (by simp; omega) (fun e => hne b e.symm hb)).trans (Below.heap_alloc _ _ _ hlt)
    refine h v1 w1 ⟨css ++ [cs], by simp [hl], ?_, ?_, ?_⟩ ?_ ?_ ?_
    · intro i h1 h2
      simp only [List.length_append, List.length_cons, List.length_nil] at h1
      by_cases e : i < xs.length
      · rw [List.getElem_append_left e, List.getElem_append_left (by omega)]
        exact d.keep (hel i e (by omega)) hkeep (by omega)
      · have e' : i = xs.length := by omega
        subst e'
        rw [List.getElem_append_right (by omega), List.getElem_append_right (by omega)]
        simp only [Nat.sub_self, hl, List.getElem_cons_zero]
        exact d.keep hy hkeep (by omega)
    · simpa using hown
    · intro k hk
      rcases hat with hat | hat
      · exact hne k (hat.symm.trans hk)
      · rw [hat] at hk
        intro hok'
        have := hok k hok'
        simp at hk
        omega
    · exact ⟨hg.os, hg.tape, hg.output, by omega, fun k hk hne' => (hg.block k (by simp; omega) hne').trans (Below.heap_alloc _ _ _ hk)⟩
    · rcases hat with hat | hat
      · exact .inl hat
      · exact .inr ⟨_, hat, by simp⟩
    · obtain ⟨_, ⟨rfl, h0⟩ | ⟨g, cap, cur, rfl, _⟩⟩ := hown
      · omega
      · exact ⟨g, cap, by rfl⟩

end Go.Proofs.Ytiaojefhbhodiaa
