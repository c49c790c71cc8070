/- Locks: the plain model. -/
import Derived.Test.YtpemppacedfifaaSxz
import Derived.Test.YtpemppacedfifaaSxl
namespace Go.Proofs.Ytpemppacedfifaa
open Go Go.Sx Go.RowKit

structure Want where
  t : Int
  w : Bool
  deriving DecidableEq
def cWant (l : Want) : List Value := [.int .i64 l.t, .bool l.w]
theorem encWant : Enc cWant 2 := ⟨fun _ => rfl, fun _ u hu => by simp [cWant] at hu; rcases hu with rfl | rfl <;> rfl⟩
def Want0 : Want := ⟨0, false⟩
structure Lock where
  readers : List Int
  writer : Int
  queue : List Want
  deriving DecidableEq
def lockV (m : Lock) (r q : Sl) : Value := .agg #[r.val m.readers.length, .int .i64 m.writer, q.val m.queue.length]
end Go.Proofs.Ytpemppacedfifaa

