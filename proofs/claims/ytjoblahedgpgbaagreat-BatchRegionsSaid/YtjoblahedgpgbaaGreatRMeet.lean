/- The document's Meeting. -/
import Derived.Test.YtjoblahedgpgbaaGreatRAdd
import Derived.Test.YtjoblahedgpgbaaGreatMeetP
import Derived.Test.YtjoblahedgpgbaaGreatPlay
namespace Go.Proofs.YtjoblahedgpgbaaGreat
set_option linter.unusedVariables false
set_option linter.unusedSimpArgs false
open Go.RowKit

/-- The rules that meet a prefix. -/
def meetL (l : List Rl) (p : Pf) : List Rl := if rtB p then l.filter (meetR p.addr p.bits.toNat) else []

end Go.Proofs.YtjoblahedgpgbaaGreat
