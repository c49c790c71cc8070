/- Channels: names for the exact laws' helpers. -/
import Derived.Test.YtanakfeaifggoaaChq
import Derived.Test.YtanakfeaifggoaaEa
namespace Go.Proofs.Ytanakfeaifggoaa
open Go Go.Sx Go.RowKit

theorem encLetter : Enc cLet 2 := encLet
def Letter0 : Letter := ⟨0, 0⟩
end Go.Proofs.Ytanakfeaifggoaa

