/- Channels: names for the exact laws' helpers. -/
import Derived.Test.YtpopeaoklccgcaaCha
import Derived.Test.YtpopeaoklccgcaaEa
namespace Go.Proofs.Ytpopeaoklccgcaa

open Go Go.Sx Go.RowKit

theorem encLetter : Enc cLet 2 := encLet

def Letter0 : Letter := ⟨0, 0⟩

end Go.Proofs.Ytpopeaoklccgcaa
