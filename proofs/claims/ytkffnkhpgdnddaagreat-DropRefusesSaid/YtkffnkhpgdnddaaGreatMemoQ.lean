/- The environment in which DropRuns is worked out: arenas by what was worked out once, rows of words compared at once. -/
import Derived.Test.YtkffnkhpgdnddaaGreatMemoR
import Derived.Test.YtkffnkhpgdnddaaGreatEq
namespace Go.Proofs.YtkffnkhpgdnddaaGreat
open Go Go.Proofs.YtkffnkhpgdnddaaGreat.NICE
noncomputable def envQ : Env Tryz.prog drStatic := tab.env tab_ok (orKnown eqKnown envRKnown) (orKnown_ok eqKnown_ok envRKnown_ok)
end Go.Proofs.YtkffnkhpgdnddaaGreat
