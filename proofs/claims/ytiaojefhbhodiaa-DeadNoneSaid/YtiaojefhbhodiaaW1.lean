/-
  Walks: what the small functions on instructions and blocks answer.
-/
import Derived.Test.YtiaojefhbhodiaaDat
import Derived.Test.YtiaojefhbhodiaaProg
import Derived.Deep.QuietTactic
import Derived.BigQuiet
set_option linter.unusedVariables false
namespace Go.Proofs.Ytiaojefhbhodiaa
open Go.RowKit

theorem alloc1 (w : World) (o : Obj) : Below w.heap.size w (w.alloc o) := (Below.refl _ _).alloc (Nat.le_refl _) _

set_option maxHeartbeats 1000000 in
theorem sets24 (op d a b k base size n : Int) (w : World) : Calls Try.prog 50 #[.agg #[.int .i64 op, .int .i64 d, .int .i64 a, .int .i64 b, .int .i64 k, .int .i64 base, .int .i64 size, .int .u32 n]] w
    fun e w' => e = .returned (.int .i64 (Tac.sets ⟨op, d, a, b, k, base, size, n⟩)) ∧ Below w.heap.size w w' := by
  go_enter Try.func50, Try.ntmps50
  go_wp2
  all_goals
    go_ret
    refine ⟨ret_int ?_, alloc1 _ _⟩
    simp_all [Tac.sets]

set_option maxHeartbeats 1000000 in
theorem setsB (op d a b k base size n : Int) (w : World) : Calls Try.prog 43 #[.agg #[.int .i64 op, .int .i64 d, .int .i64 a, .int .i64 b, .int .i64 k, .int .i64 base, .int .i64 size, .int .u32 n]] w
    fun e w' => e = .returned (.int .i64 (Tac.sets ⟨op, d, a, b, k, base, size, n⟩)) ∧ Below w.heap.size w w' := by
  go_enter Try.func43, Try.ntmps43
  go_wp2
  all_goals
    go_ret
    refine ⟨ret_int ?_, alloc1 _ _⟩
    simp_all [Tac.sets]

set_option maxHeartbeats 1000000 in
theorem uses24 (op d a b k base size n : Int) (w : World) : Calls Try.prog 58 #[.agg #[.int .i64 op, .int .i64 d, .int .i64 a, .int .i64 b, .int .i64 k, .int .i64 base, .int .i64 size, .int .u32 n]] w
    fun e w' => (∃ v, e = .returned v ∧ Sl RI w' (fun c => w.heap.size ≤ c) (Tac.uses ⟨op, d, a, b, k, base, size, n⟩) v) ∧ Below w.heap.size w w' := by
  go_enter Try.func58, Try.ntmps58
  go_wp2
  all_goals
    go_ret
    refine ⟨⟨_, rfl, ?_⟩, (by repeat (first | exact Below.refl _ _ | exact alloc1 _ _ | refine Below.drew ?_ | refine Below.alloc ?_ (by simp; try omega) _ | refine Below.setCell ?_ (by simp; try omega) _))⟩
    first
      | (have hu : Tac.uses ⟨op, d, a, b, k, base, size, n⟩ = [a] := by simp_all [Tac.uses]
         rw [hu]; exact Sl.of_bx (b := w.heap.size + 1) [a] 1 (Bx.new' (by simp)) rfl (by simp) (by simp) (by simp) rfl)
      | (have hu : Tac.uses ⟨op, d, a, b, k, base, size, n⟩ = [a, b] := by simp_all [Tac.uses]
         rw [hu]; exact Sl.of_bx (b := w.heap.size + 1) [a, b] 2 (Bx.new' (by simp)) rfl (by simp) (by simp) (by simp) rfl)
      | (have hu : Tac.uses ⟨op, d, a, b, k, base, size, n⟩ = [] := by simp_all [Tac.uses]
         rw [hu]; exact Sl.nil _ _ _)

set_option maxHeartbeats 1000000 in
theorem usesB (op d a b k base size n : Int) (w : World) : Calls Try.prog 67 #[.agg #[.int .i64 op, .int .i64 d, .int .i64 a, .int .i64 b, .int .i64 k, .int .i64 base, .int .i64 size, .int .u32 n]] w
    fun e w' => (∃ v, e = .returned v ∧ Sl RI w' (fun c => w.heap.size ≤ c) (Tac.uses ⟨op, d, a, b, k, base, size, n⟩) v) ∧ Below w.heap.size w w' := by
  go_enter Try.func67, Try.ntmps67
  go_wp2
  all_goals
    go_ret
    refine ⟨⟨_, rfl, ?_⟩, (by repeat (first | exact Below.refl _ _ | exact alloc1 _ _ | refine Below.drew ?_ | refine Below.alloc ?_ (by simp; try omega) _ | refine Below.setCell ?_ (by simp; try omega) _))⟩
    first
      | (have hu : Tac.uses ⟨op, d, a, b, k, base, size, n⟩ = [a] := by simp_all [Tac.uses]
         rw [hu]; exact Sl.of_bx (b := w.heap.size + 1) [a] 1 (Bx.new' (by simp)) rfl (by simp) (by simp) (by simp) rfl)
      | (have hu : Tac.uses ⟨op, d, a, b, k, base, size, n⟩ = [a, b] := by simp_all [Tac.uses]
         rw [hu]; exact Sl.of_bx (b := w.heap.size + 1) [a, b] 2 (Bx.new' (by simp)) rfl (by simp) (by simp) (by simp) rfl)
      | (have hu : Tac.uses ⟨op, d, a, b, k, base, size, n⟩ = [] := by simp_all [Tac.uses]
         rw [hu]; exact Sl.nil _ _ _)

set_option maxHeartbeats 1000000 in
theorem pureD (op d a b k base size n : Int) (w : World) : Calls Try.prog 10 #[.agg #[.int .i64 op, .int .i64 d, .int .i64 a, .int .i64 b, .int .i64 k, .int .i64 base, .int .i64 size, .int .u32 n]] w
    fun e w' => e = .returned (.bool (Tac.pure ⟨op, d, a, b, k, base, size, n⟩)) ∧ Below w.heap.size w w' := by
  go_enter Try.func10, Try.ntmps10
  go_wp2
  all_goals
    go_ret
    refine ⟨ret_bool ?_, (by repeat (first | exact Below.refl _ _ | exact alloc1 _ _ | refine Below.drew ?_ | refine Below.alloc ?_ (by simp; try omega) _ | refine Below.setCell ?_ (by simp; try omega) _))⟩
    simp_all [Tac.pure] <;> first | omega | grind

set_option maxHeartbeats 1000000 in
theorem pure32 (op d a b k base size n : Int) (w : World) : Calls Try.prog 11 #[.agg #[.int .i64 op, .int .i64 d, .int .i64 a, .int .i64 b, .int .i64 k, .int .i64 base, .int .i64 size, .int .u32 n]] w
    fun e w' => e = .returned (.bool (Tac.pure ⟨op, d, a, b, k, base, size, n⟩)) ∧ Below w.heap.size w w' := by
  go_enter Try.func11, Try.ntmps11
  go_wp2
  all_goals
    go_ret
    refine ⟨ret_bool ?_, (by repeat (first | exact Below.refl _ _ | exact alloc1 _ _ | refine Below.drew ?_ | refine Below.alloc ?_ (by simp; try omega) _ | refine Below.setCell ?_ (by simp; try omega) _))⟩
    simp_all [Tac.pure] <;> first | omega | grind

set_option maxHeartbeats 1000000 in
theorem within24 (i n : Int) (w : World) : Calls Try.prog 57 #[.int .i64 i, .int .i64 n] w
    fun e w' => e = .returned (.bool (inR i n)) ∧ w = w' := by
  go_enter Try.func57, Try.ntmps57
  go_wp2
  all_goals
    go_ret
    refine ⟨ret_bool ?_, rfl⟩
    simp_all [inR] <;> first | omega | grind

set_option maxHeartbeats 1000000 in
theorem ends24 (v : Value) (fin vv to els blocks regs : Int) (w : World) : Calls Try.prog 38 #[.agg #[v, .int .i64 fin, .int .i64 vv, .int .i64 to, .int .i64 els], .int .i64 blocks, .int .i64 regs] w
    fun e w' => e = .returned (.bool (Blk.ends ⟨[], fin, vv, to, els⟩ blocks regs)) ∧ Below w.heap.size w w' := by
  go_enter Try.func38, Try.ntmps38
  go_wp2_with (go_at_call 57; refine (within24 _ _ _).mono ?_; rintro e w' ⟨rfl, rfl⟩)
  all_goals
    go_ret
    refine ⟨ret_bool ?_, (by repeat (first | exact Below.refl _ _ | exact alloc1 _ _ | refine Below.drew ?_ | refine Below.alloc ?_ (by simp; try omega) _ | refine Below.setCell ?_ (by simp; try omega) _))⟩
    simp_all [Blk.ends, zeros, inR] <;> first | omega | grind
end Go.Proofs.Ytiaojefhbhodiaa
