/- The kinds that the law's arguments are read as. -/
import Derived.Test.YthpdlgamicmhaaaGreatKShape
import Derived.Test.YthpdlgamicmhaaaGreatPNx0
namespace Go.Proofs.YthpdlgamicmhaaaGreat.PN
open Go.RowKit Go.Proofs.YthpdlgamicmhaaaGreatW.PrintWords Go.Proofs.YthpdlgamicmhaaaGreatW.PrintLast Go.Proofs.YthpdlgamicmhaaaGreatW.PrintMore Go.Proofs.YthpdlgamicmhaaaGreat.KS
set_option linter.unusedVariables false
theorem kshape9 : KShape Tryz.prog 9 Kd.string okStr := kshape_str Tryz.underlying9 (by kernel_rfl)
end Go.Proofs.YthpdlgamicmhaaaGreat.PN
