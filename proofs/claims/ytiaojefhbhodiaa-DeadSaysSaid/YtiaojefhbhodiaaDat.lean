/-
  The data of the layers: three-address code in blocks, as plain Lean values, and how they lie in memory.
-/
import Derived.Test.YtiaojefhbhodiaaRep
set_option linter.unusedVariables false
namespace Go.Proofs.Ytiaojefhbhodiaa
open Go.RowKit

structure Tac where
  op : Int
  d : Int
  a : Int
  b : Int
  k : Int
  base : Int
  size : Int
  n : Int
deriving DecidableEq

structure Blk where
  ins : List Tac
  fin : Int
  v : Int
  to : Int
  els : Int
deriving DecidableEq

structure Fn where
  regs : Int
  blocks : List Blk
deriving DecidableEq

structure Prg where
  words : Int
  funcs : List Fn
deriving DecidableEq

def Tac.cells (t : Tac) : List Value := [.int .i64 t.op, .int .i64 t.d, .int .i64 t.a, .int .i64 t.b, .int .i64 t.k, .int .i64 t.base, .int .i64 t.size, .int .u32 t.n]

/-- May a number be one of a kind? -/
def inI (x : Int) : Prop := -9223372036854775808 ≤ x ∧ x ≤ 9223372036854775807
def inU (x : Int) : Prop := 0 ≤ x ∧ x ≤ 4294967295
def Tac.ok (t : Tac) : Prop := inU t.n

def RTac : Rep Tac where
  sz := 8
  pos := by omega
  is _ _ t cs := cs = t.cells ∧ t.ok
  len h := by rw [h.1]; rfl
  one h := by rw [h.1]; intro u hu; simp [Tac.cells] at hu; rcases hu with rfl | rfl | rfl | rfl | rfl | rfl | rfl | rfl <;> rfl
  keep h _ _ := h
  mono h _ := h

def RBlk : Rep Blk where
  sz := 5
  pos := by omega
  is w ok b cs := ∃ v, cs = [v, .int .i64 b.fin, .int .i64 b.v, .int .i64 b.to, .int .i64 b.els] ∧ Sl RTac w ok b.ins v
  len h := by obtain ⟨v, rfl, _⟩ := h; rfl
  one h := by
    obtain ⟨v, rfl, A, n, c, rfl, _⟩ := h
    intro u hu
    simp at hu
    rcases hu with rfl | rfl | rfl | rfl | rfl <;> rfl
  keep h hk hs := by obtain ⟨v, rfl, h⟩ := h; exact ⟨v, rfl, h.keep hk hs⟩
  mono h hk := by obtain ⟨v, rfl, h⟩ := h; exact ⟨v, rfl, h.mono hk⟩

def RFn : Rep Fn where
  sz := 2
  pos := by omega
  is w ok f cs := ∃ v, cs = [.int .i64 f.regs, v] ∧ Sl RBlk w ok f.blocks v
  len h := by obtain ⟨v, rfl, _⟩ := h; rfl
  one h := by
    obtain ⟨v, rfl, A, n, c, rfl, _⟩ := h
    intro u hu
    simp at hu
    rcases hu with rfl | rfl <;> rfl
  keep h hk hs := by obtain ⟨v, rfl, h⟩ := h; exact ⟨v, rfl, h.keep hk hs⟩
  mono h hk := by obtain ⟨v, rfl, h⟩ := h; exact ⟨v, rfl, h.mono hk⟩

/-- A row of one instruction's cells, one by one. -/
theorem Row.tac {w : World} {g o : Nat} {t : Tac} (h : Row w g o t.cells) :
    w.cell? ⟨g, o, none⟩ = some (.int .i64 t.op) ∧ w.cell? ⟨g, o + 1, none⟩ = some (.int .i64 t.d) ∧ w.cell? ⟨g, o + 2, none⟩ = some (.int .i64 t.a) ∧ w.cell? ⟨g, o + 3, none⟩ = some (.int .i64 t.b) ∧
    w.cell? ⟨g, o + 4, none⟩ = some (.int .i64 t.k) ∧ w.cell? ⟨g, o + 5, none⟩ = some (.int .i64 t.base) ∧ w.cell? ⟨g, o + 6, none⟩ = some (.int .i64 t.size) ∧ w.cell? ⟨g, o + 7, none⟩ = some (.int .u32 t.n) := by
  refine ⟨?_, ?_, ?_, ?_, ?_, ?_, ?_, ?_⟩
  · simpa [Tac.cells] using h 0 (by simp [Tac.cells])
  · simpa [Tac.cells] using h 1 (by simp [Tac.cells])
  · simpa [Tac.cells] using h 2 (by simp [Tac.cells])
  · simpa [Tac.cells] using h 3 (by simp [Tac.cells])
  · simpa [Tac.cells] using h 4 (by simp [Tac.cells])
  · simpa [Tac.cells] using h 5 (by simp [Tac.cells])
  · simpa [Tac.cells] using h 6 (by simp [Tac.cells])
  · simpa [Tac.cells] using h 7 (by simp [Tac.cells])

/-- An element of a slice of instructions. -/
theorem Sl.tac {w : World} {ok : Nat → Prop} {xs : List Tac} {A : Option Addr} {n c : Nat} (h : Sl RTac w ok xs (.slice A n c)) (i : Nat) (hi : i < xs.length) :
    ∃ g o, A = some ⟨g, o, none⟩ ∧ ok g ∧ g < w.heap.size ∧ Row w g (o + i * 8) xs[i].cells ∧ xs[i].ok := by
  obtain ⟨g, o, cs, hA, hok, hlt, ⟨rfl, ht⟩, hr⟩ := h.at i hi
  exact ⟨g, o, hA, hok, hlt, hr, ht⟩
theorem Sl.blk {w : World} {ok : Nat → Prop} {xs : List Blk} {A : Option Addr} {n c : Nat} (h : Sl RBlk w ok xs (.slice A n c)) (i : Nat) (hi : i < xs.length) :
    ∃ g o B m, A = some ⟨g, o, none⟩ ∧ ok g ∧ g < w.heap.size ∧ Sl RTac w ok xs[i].ins (.slice B xs[i].ins.length m) ∧ xs[i].ins.length ≤ 140737488355328 ∧
      w.cell? ⟨g, o + i * 5, none⟩ = some (.slice B xs[i].ins.length m) ∧ w.cell? ⟨g, o + i * 5 + 1, none⟩ = some (.int .i64 xs[i].fin) ∧ w.cell? ⟨g, o + i * 5 + 2, none⟩ = some (.int .i64 xs[i].v) ∧
      w.cell? ⟨g, o + i * 5 + 3, none⟩ = some (.int .i64 xs[i].to) ∧ w.cell? ⟨g, o + i * 5 + 4, none⟩ = some (.int .i64 xs[i].els) := by
  obtain ⟨g, o, cs, hA, hok, hlt, ⟨v, rfl, hv⟩, hr⟩ := h.at i hi
  obtain ⟨B, m, rfl, h1, h2⟩ := hv.form
  refine ⟨g, o, B, m, hA, hok, hlt, hv, h2, ?_, ?_, ?_, ?_, ?_⟩
  · simpa [show RBlk.sz = 5 from rfl] using hr 0 (by simp)
  · simpa [show RBlk.sz = 5 from rfl] using hr 1 (by simp)
  · simpa [show RBlk.sz = 5 from rfl] using hr 2 (by simp)
  · simpa [show RBlk.sz = 5 from rfl] using hr 3 (by simp)
  · simpa [show RBlk.sz = 5 from rfl] using hr 4 (by simp)
theorem Sl.fn {w : World} {ok : Nat → Prop} {xs : List Fn} {A : Option Addr} {n c : Nat} (h : Sl RFn w ok xs (.slice A n c)) (i : Nat) (hi : i < xs.length) :
    ∃ g o B m, A = some ⟨g, o, none⟩ ∧ ok g ∧ g < w.heap.size ∧ Sl RBlk w ok xs[i].blocks (.slice B xs[i].blocks.length m) ∧ xs[i].blocks.length ≤ 140737488355328 ∧
      w.cell? ⟨g, o + i * 2, none⟩ = some (.int .i64 xs[i].regs) ∧ w.cell? ⟨g, o + i * 2 + 1, none⟩ = some (.slice B xs[i].blocks.length m) := by
  obtain ⟨g, o, cs, hA, hok, hlt, ⟨v, rfl, hv⟩, hr⟩ := h.at i hi
  obtain ⟨B, m, rfl, h1, h2⟩ := hv.form
  refine ⟨g, o, B, m, hA, hok, hlt, hv, h2, ?_, ?_⟩
  · simpa [show RFn.sz = 2 from rfl] using hr 0 (by simp)
  · simpa [show RFn.sz = 2 from rfl] using hr 1 (by simp)
theorem Sl.one {α : Type} {enc : α → Value} {h1 : ∀ x, (enc x).oneCell' = true} {w : World} {ok : Nat → Prop} {xs : List α} {A : Option Addr} {n c : Nat} (h : Sl (Rep.scalar enc h1) w ok xs (.slice A n c)) (i : Nat) (hi : i < xs.length) :
    ∃ g o, A = some ⟨g, o, none⟩ ∧ ok g ∧ g < w.heap.size ∧ w.cell? ⟨g, o + i, none⟩ = some (enc xs[i]) := by
  obtain ⟨g, o, cs, hA, hok, hlt, hcs, hr⟩ := h.at i hi
  have hcs' : cs = [enc xs[i]] := hcs
  subst hcs'
  refine ⟨g, o, hA, hok, hlt, ?_⟩
  simpa [Rep.scalar] using hr 0 (by simp)
theorem Sl.row {α : Type} {d : Rep α} {w : World} {ok : Nat → Prop} {xs : List (List α)} {A : Option Addr} {n c : Nat} (h : Sl (Rep.slice d) w ok xs (.slice A n c)) (i : Nat) (hi : i < xs.length) :
    ∃ g o B m, A = some ⟨g, o, none⟩ ∧ ok g ∧ g < w.heap.size ∧ Sl d w ok xs[i] (.slice B xs[i].length m) ∧ xs[i].length ≤ 140737488355328 ∧ w.cell? ⟨g, o + i, none⟩ = some (.slice B xs[i].length m) := by
  obtain ⟨g, o, cs, hA, hok, hlt, ⟨v, rfl, hv⟩, hr⟩ := h.at i hi
  obtain ⟨B, m, rfl, h1, h2⟩ := hv.form
  refine ⟨g, o, B, m, hA, hok, hlt, hv, h2, ?_⟩
  simpa [Rep.slice] using hr 0 (by simp)

/-! ### What the layers say of an instruction -/
def Tac.uses (t : Tac) : List Int := if t.op = 2 ∨ t.op = 5 ∨ t.op = 6 ∨ t.op = 9 then [t.a] else if t.op = 3 ∨ t.op = 7 then [t.a, t.b] else []
def Tac.sets (t : Tac) : Int := if t.op = 1 ∨ t.op = 2 ∨ t.op = 3 ∨ t.op = 4 ∨ t.op = 6 ∨ t.op = 8 then t.d else -1
def Tac.pure (t : Tac) : Bool := decide (t.op = 1 ∨ t.op = 2 ∨ t.op = 4 ∨ (t.op = 3 ∧ t.k ≠ 7 ∧ t.k ≠ 8))

def inR (i n : Int) : Bool := decide (0 ≤ i ∧ i < n)
def zeros (l : List Int) : Bool := l.all (· == 0)

/-- May an instruction be, in the function of a number, with so many registers and words? -/
def Tac.fits (t : Tac) (f regs words : Int) : Bool :=
  if t.op = 1 then inR t.d regs && zeros [t.a, t.b, t.k, t.base, t.size]
  else if t.op = 2 then inR t.d regs && inR t.a regs && zeros [t.b, t.k, t.base, t.size, t.n]
  else if t.op = 3 then inR t.d regs && inR t.a regs && inR t.b regs && decide (4 ≤ t.k ∧ t.k ≤ 15) && zeros [t.base, t.size, t.n]
  else if t.op = 4 then inR t.d regs && inR t.base words && zeros [t.a, t.b, t.k, t.size, t.n]
  else if t.op = 5 then inR t.a regs && inR t.base words && zeros [t.d, t.b, t.k, t.size, t.n]
  else if t.op = 6 then inR t.d regs && inR t.a regs && decide (1 ≤ t.size ∧ t.size ≤ 4096 ∧ 0 ≤ t.base ∧ t.base ≤ words - t.size) && zeros [t.b, t.k, t.n]
  else if t.op = 7 then inR t.a regs && inR t.b regs && decide (1 ≤ t.size ∧ t.size ≤ 4096 ∧ 0 ≤ t.base ∧ t.base ≤ words - t.size) && zeros [t.d, t.k, t.n]
  else if t.op = 8 then inR t.d regs && zeros [t.a, t.b, t.k, t.base, t.size, t.n]
  else if t.op = 9 then inR t.a regs && zeros [t.d, t.b, t.k, t.base, t.size, t.n]
  else if t.op = 10 then inR t.base f && zeros [t.d, t.a, t.b, t.k, t.size, t.n]
  else false

/-- May a block's end be? -/
def Blk.ends (x : Blk) (blocks regs : Int) : Bool :=
  if x.fin = 1 then inR x.to blocks && zeros [x.v, x.els]
  else if x.fin = 2 then inR x.to blocks && inR x.els blocks && inR x.v regs
  else decide (x.fin = 3) && zeros [x.v, x.to, x.els]

/-- May a function be? -/
def Fn.one (f : Fn) (number words : Int) : Bool :=
  decide (0 ≤ f.regs ∧ f.regs ≤ 4000 ∧ f.blocks ≠ []) && f.blocks.all fun x => x.ends f.blocks.length f.regs && x.ins.all fun t => t.fits number f.regs words

end Go.Proofs.Ytiaojefhbhodiaa
