/- Comparing waiters, operations. -/
import Derived.Test.YtpopeaoklccgcaaDl
import Derived.Test.YtpopeaoklccgcaaSxu
namespace Go.Proofs.Ytpopeaoklccgcaa

open Go Go.Sx Go.RowKit

theorem neWaiter (x y : Waiter) (w : World) : (binOp .neq 159 (.agg (cWaiter x).toArray) (.agg (cWaiter y).toArray)).run Try.prog w = .ok (.bool (decide (x ≠ y))) w := by
  have h := neq_ints (P := Try.prog) (t := 159) (it := 3) (xs := [x.t, x.n]) (ys := [y.t, y.n]) (by kernel_rfl) (by kernel_rfl) (by kernel_rfl) rfl (by kernel_rfl) w
  have e : ([x.t, x.n] ≠ [y.t, y.n]) ↔ x ≠ y := by cases x; cases y; simp
  rw [show decide (x ≠ y) = decide ([x.t, x.n] ≠ [y.t, y.n]) from by simp only [e]]
  exact h

theorem neOp (x y : Op) (w : World) : (binOp .neq 111 (.agg (cOp x).toArray) (.agg (cOp y).toArray)).run Try.prog w = .ok (.bool (decide (x ≠ y))) w := by
  have h := neq_ints (P := Try.prog) (t := 111) (it := 3) (xs := [x.kind, x.on, x.arg]) (ys := [y.kind, y.on, y.arg]) (by kernel_rfl) (by kernel_rfl) (by kernel_rfl) rfl (by kernel_rfl) w
  have e : ([x.kind, x.on, x.arg] ≠ [y.kind, y.on, y.arg]) ↔ x ≠ y := by cases x; cases y; simp
  rw [show decide (x ≠ y) = decide ([x.kind, x.on, x.arg] ≠ [y.kind, y.on, y.arg]) from by simp only [e]]
  exact h

end Go.Proofs.Ytpopeaoklccgcaa
