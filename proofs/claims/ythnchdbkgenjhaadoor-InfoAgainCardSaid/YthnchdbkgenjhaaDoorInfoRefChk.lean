import Derived.Test.YthnchdbkgenjhaaDoorInfoLay
import Derived.Test.YthnchdbkgenjhaaDoorQInfoAx2
import Derived.Test.YthnchdbkgenjhaaDoorQInfoAx5
import Derived.Test.YthnchdbkgenjhaaDoorQInfoAx3
set_option linter.unusedVariables false
set_option linter.unusedSimpArgs false
/- The reference's Base and Name: plain laws, no walk. -/
namespace Go.Proofs.YthnchdbkgenjhaaDoorX
open Go.RowKit Go.Proofs.YthnchdbkgenjhaaDoor.PInfoA Go.Proofs.YthnchdbkgenjhaaDoorW.PrintWords Go.Proofs.YthnchdbkgenjhaaDoorW.PrintLast Go.Proofs.YthnchdbkgenjhaaDoorW.PrintMore
end Go.Proofs.YthnchdbkgenjhaaDoorX
/- What an info is laid down as, by the document: plain laws, no walk. -/
namespace Go.Proofs.YthnchdbkgenjhaaDoorX
open Go.RowKit Go.Proofs.YthnchdbkgenjhaaDoor.PInfoA Go.Proofs.YthnchdbkgenjhaaDoorW.PrintWords Go.Proofs.YthnchdbkgenjhaaDoorW.PrintLast Go.Proofs.YthnchdbkgenjhaaDoorW.PrintMore
end Go.Proofs.YthnchdbkgenjhaaDoorX
/- The reference's Check of an info: a plain law. -/
namespace Go.Proofs.YthnchdbkgenjhaaDoorX
open Go.RowKit Go.Proofs.YthnchdbkgenjhaaDoor.PInfoA Go.Proofs.YthnchdbkgenjhaaDoorW.PrintWords Go.Proofs.YthnchdbkgenjhaaDoorW.PrintLast Go.Proofs.YthnchdbkgenjhaaDoorW.PrintMore
end Go.Proofs.YthnchdbkgenjhaaDoorX
