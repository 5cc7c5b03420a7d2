
/- Numbers that may be degrees: the reference's test and the program's, both are 'validD'. -/
import Derived.Test.YtmlaohohbadgbaaAllIn
namespace Go.Proofs.Ytmlaohohbadgbaa
open Go.RowKit

def validD (xs : List Int) : Bool := allR xs 0 (xs.length - 1) && decide (xs.length ≤ 7)

end Go.Proofs.Ytmlaohohbadgbaa
