/-
  Walks: may an instruction be, a function, a program.
-/
import Derived.Test.YtiaojefhbhodiaaW3
import Derived.Handy
set_option linter.unusedVariables false
namespace Go.Proofs.Ytiaojefhbhodiaa
open Go.RowKit

set_option maxRecDepth 100000 in
set_option maxHeartbeats 4000000 in
theorem fits24_1 (d a b k base size n f regs words : Int) (w : World) (h0 : -1099511627776 ≤ words) (h1 : words ≤ 1099511627776) :
    Calls Try.prog 39 #[.agg #[.int .i64 1, .int .i64 d, .int .i64 a, .int .i64 b, .int .i64 k, .int .i64 base, .int .i64 size, .int .u32 n], .int .i64 f, .int .i64 regs, .int .i64 words] w
    fun e w' => e = .returned (.bool (Tac.fits ⟨1, d, a, b, k, base, size, n⟩ f regs words)) ∧ Below w.heap.size w w' := by
  have eqt := @eqTac
  go_enter Try.func39, Try.ntmps39
  go_wp2
  all_goals try (go_rounds 3)
  all_goals
    go_ret
    refine ⟨ret_bool ?_, (by repeat (first | exact Below.refl _ _ | exact alloc1 _ _ | refine Below.drew ?_ | refine Below.alloc ?_ (by simp; try omega) _ | refine Below.setCell ?_ (by simp; try omega) _))⟩
    (simp_all [Tac.fits, inR, zeros] <;> first | omega | grind)

set_option maxRecDepth 100000 in
set_option maxHeartbeats 4000000 in
theorem fits24_2 (d a b k base size n f regs words : Int) (w : World) (h0 : -1099511627776 ≤ words) (h1 : words ≤ 1099511627776) :
    Calls Try.prog 39 #[.agg #[.int .i64 2, .int .i64 d, .int .i64 a, .int .i64 b, .int .i64 k, .int .i64 base, .int .i64 size, .int .u32 n], .int .i64 f, .int .i64 regs, .int .i64 words] w
    fun e w' => e = .returned (.bool (Tac.fits ⟨2, d, a, b, k, base, size, n⟩ f regs words)) ∧ Below w.heap.size w w' := by
  have eqt := @eqTac
  go_enter Try.func39, Try.ntmps39
  go_wp2
  all_goals try (go_rounds 3)
  all_goals
    go_ret
    refine ⟨ret_bool ?_, (by repeat (first | exact Below.refl _ _ | exact alloc1 _ _ | refine Below.drew ?_ | refine Below.alloc ?_ (by simp; try omega) _ | refine Below.setCell ?_ (by simp; try omega) _))⟩
    (simp_all [Tac.fits, inR, zeros] <;> first | omega | grind)

set_option maxRecDepth 100000 in
set_option maxHeartbeats 4000000 in
theorem fits24_3 (d a b k base size n f regs words : Int) (w : World) (h0 : -1099511627776 ≤ words) (h1 : words ≤ 1099511627776) :
    Calls Try.prog 39 #[.agg #[.int .i64 3, .int .i64 d, .int .i64 a, .int .i64 b, .int .i64 k, .int .i64 base, .int .i64 size, .int .u32 n], .int .i64 f, .int .i64 regs, .int .i64 words] w
    fun e w' => e = .returned (.bool (Tac.fits ⟨3, d, a, b, k, base, size, n⟩ f regs words)) ∧ Below w.heap.size w w' := by
  have eqt := @eqTac
  go_enter Try.func39, Try.ntmps39
  go_wp2
  all_goals try (go_rounds 3)
  all_goals
    go_ret
    refine ⟨ret_bool ?_, (by repeat (first | exact Below.refl _ _ | exact alloc1 _ _ | refine Below.drew ?_ | refine Below.alloc ?_ (by simp; try omega) _ | refine Below.setCell ?_ (by simp; try omega) _))⟩
    (simp_all [Tac.fits, inR, zeros] <;> first | omega | grind)

set_option maxRecDepth 100000 in
set_option maxHeartbeats 4000000 in
theorem fits24_4 (d a b k base size n f regs words : Int) (w : World) (h0 : -1099511627776 ≤ words) (h1 : words ≤ 1099511627776) :
    Calls Try.prog 39 #[.agg #[.int .i64 4, .int .i64 d, .int .i64 a, .int .i64 b, .int .i64 k, .int .i64 base, .int .i64 size, .int .u32 n], .int .i64 f, .int .i64 regs, .int .i64 words] w
    fun e w' => e = .returned (.bool (Tac.fits ⟨4, d, a, b, k, base, size, n⟩ f regs words)) ∧ Below w.heap.size w w' := by
  have eqt := @eqTac
  go_enter Try.func39, Try.ntmps39
  go_wp2
  all_goals try (go_rounds 3)
  all_goals
    go_ret
    refine ⟨ret_bool ?_, (by repeat (first | exact Below.refl _ _ | exact alloc1 _ _ | refine Below.drew ?_ | refine Below.alloc ?_ (by simp; try omega) _ | refine Below.setCell ?_ (by simp; try omega) _))⟩
    (simp_all [Tac.fits, inR, zeros] <;> first | omega | grind)

set_option maxRecDepth 100000 in
set_option maxHeartbeats 4000000 in
theorem fits24_5 (d a b k base size n f regs words : Int) (w : World) (h0 : -1099511627776 ≤ words) (h1 : words ≤ 1099511627776) :
    Calls Try.prog 39 #[.agg #[.int .i64 5, .int .i64 d, .int .i64 a, .int .i64 b, .int .i64 k, .int .i64 base, .int .i64 size, .int .u32 n], .int .i64 f, .int .i64 regs, .int .i64 words] w
    fun e w' => e = .returned (.bool (Tac.fits ⟨5, d, a, b, k, base, size, n⟩ f regs words)) ∧ Below w.heap.size w w' := by
  have eqt := @eqTac
  go_enter Try.func39, Try.ntmps39
  go_wp2
  all_goals try (go_rounds 3)
  all_goals
    go_ret
    refine ⟨ret_bool ?_, (by repeat (first | exact Below.refl _ _ | exact alloc1 _ _ | refine Below.drew ?_ | refine Below.alloc ?_ (by simp; try omega) _ | refine Below.setCell ?_ (by simp; try omega) _))⟩
    (simp_all [Tac.fits, inR, zeros] <;> first | omega | grind)

set_option maxRecDepth 100000 in
set_option maxHeartbeats 4000000 in
theorem fits24_6 (d a b k base size n f regs words : Int) (w : World) (h0 : -1099511627776 ≤ words) (h1 : words ≤ 1099511627776) :
    Calls Try.prog 39 #[.agg #[.int .i64 6, .int .i64 d, .int .i64 a, .int .i64 b, .int .i64 k, .int .i64 base, .int .i64 size, .int .u32 n], .int .i64 f, .int .i64 regs, .int .i64 words] w
    fun e w' => e = .returned (.bool (Tac.fits ⟨6, d, a, b, k, base, size, n⟩ f regs words)) ∧ Below w.heap.size w w' := by
  have eqt := @eqTac
  go_enter Try.func39, Try.ntmps39
  go_wp2
  all_goals try (go_rounds 3)
  all_goals try (go_region; go_wp2)
  all_goals
    go_ret
    refine ⟨ret_bool ?_, (by repeat (first | exact Below.refl _ _ | exact alloc1 _ _ | refine Below.drew ?_ | refine Below.alloc ?_ (by simp; try omega) _ | refine Below.setCell ?_ (by simp; try omega) _))⟩
    (simp_all [Tac.fits, inR, zeros] <;> first | omega | grind)

set_option maxRecDepth 100000 in
set_option maxHeartbeats 4000000 in
theorem fits24_7 (d a b k base size n f regs words : Int) (w : World) (h0 : -1099511627776 ≤ words) (h1 : words ≤ 1099511627776) :
    Calls Try.prog 39 #[.agg #[.int .i64 7, .int .i64 d, .int .i64 a, .int .i64 b, .int .i64 k, .int .i64 base, .int .i64 size, .int .u32 n], .int .i64 f, .int .i64 regs, .int .i64 words] w
    fun e w' => e = .returned (.bool (Tac.fits ⟨7, d, a, b, k, base, size, n⟩ f regs words)) ∧ Below w.heap.size w w' := by
  have eqt := @eqTac
  go_enter Try.func39, Try.ntmps39
  go_wp2
  all_goals try (go_rounds 3)
  all_goals try (go_region; go_wp2)
  all_goals
    go_ret
    refine ⟨ret_bool ?_, (by repeat (first | exact Below.refl _ _ | exact alloc1 _ _ | refine Below.drew ?_ | refine Below.alloc ?_ (by simp; try omega) _ | refine Below.setCell ?_ (by simp; try omega) _))⟩
    (simp_all [Tac.fits, inR, zeros] <;> first | omega | grind)

set_option maxRecDepth 100000 in
set_option maxHeartbeats 4000000 in
theorem fits24_8 (d a b k base size n f regs words : Int) (w : World) (h0 : -1099511627776 ≤ words) (h1 : words ≤ 1099511627776) :
    Calls Try.prog 39 #[.agg #[.int .i64 8, .int .i64 d, .int .i64 a, .int .i64 b, .int .i64 k, .int .i64 base, .int .i64 size, .int .u32 n], .int .i64 f, .int .i64 regs, .int .i64 words] w
    fun e w' => e = .returned (.bool (Tac.fits ⟨8, d, a, b, k, base, size, n⟩ f regs words)) ∧ Below w.heap.size w w' := by
  have eqt := @eqTac
  go_enter Try.func39, Try.ntmps39
  go_wp2
  all_goals try (go_rounds 3)
  all_goals
    go_ret
    refine ⟨ret_bool ?_, (by repeat (first | exact Below.refl _ _ | exact alloc1 _ _ | refine Below.drew ?_ | refine Below.alloc ?_ (by simp; try omega) _ | refine Below.setCell ?_ (by simp; try omega) _))⟩
    (simp_all [Tac.fits, inR, zeros] <;> first | omega | grind)

set_option maxRecDepth 100000 in
set_option maxHeartbeats 4000000 in
theorem fits24_9 (d a b k base size n f regs words : Int) (w : World) (h0 : -1099511627776 ≤ words) (h1 : words ≤ 1099511627776) :
    Calls Try.prog 39 #[.agg #[.int .i64 9, .int .i64 d, .int .i64 a, .int .i64 b, .int .i64 k, .int .i64 base, .int .i64 size, .int .u32 n], .int .i64 f, .int .i64 regs, .int .i64 words] w
    fun e w' => e = .returned (.bool (Tac.fits ⟨9, d, a, b, k, base, size, n⟩ f regs words)) ∧ Below w.heap.size w w' := by
  have eqt := @eqTac
  go_enter Try.func39, Try.ntmps39
  go_wp2
  all_goals try (go_rounds 3)
  all_goals
    go_ret
    refine ⟨ret_bool ?_, (by repeat (first | exact Below.refl _ _ | exact alloc1 _ _ | refine Below.drew ?_ | refine Below.alloc ?_ (by simp; try omega) _ | refine Below.setCell ?_ (by simp; try omega) _))⟩
    (simp_all [Tac.fits, inR, zeros] <;> first | omega | grind)

set_option maxRecDepth 100000 in
set_option maxHeartbeats 4000000 in
theorem fits24_10 (d a b k base size n f regs words : Int) (w : World) (h0 : -1099511627776 ≤ words) (h1 : words ≤ 1099511627776) :
    Calls Try.prog 39 #[.agg #[.int .i64 10, .int .i64 d, .int .i64 a, .int .i64 b, .int .i64 k, .int .i64 base, .int .i64 size, .int .u32 n], .int .i64 f, .int .i64 regs, .int .i64 words] w
    fun e w' => e = .returned (.bool (Tac.fits ⟨10, d, a, b, k, base, size, n⟩ f regs words)) ∧ Below w.heap.size w w' := by
  have eqt := @eqTac
  go_enter Try.func39, Try.ntmps39
  go_wp2
  all_goals try (go_rounds 3)
  all_goals
    go_ret
    refine ⟨ret_bool ?_, (by repeat (first | exact Below.refl _ _ | exact alloc1 _ _ | refine Below.drew ?_ | refine Below.alloc ?_ (by simp; try omega) _ | refine Below.setCell ?_ (by simp; try omega) _))⟩
    (simp_all [Tac.fits, inR, zeros] <;> first | omega | grind)
end Go.Proofs.Ytiaojefhbhodiaa
