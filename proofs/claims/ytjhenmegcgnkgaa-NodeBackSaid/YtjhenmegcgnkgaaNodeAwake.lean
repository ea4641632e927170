/- The chapter's examples, reckoned. -/
import Derived.Test.YtjhenmegcgnkgaaQNodex5
import Derived.Test.YtjhenmegcgnkgaaPlain
set_option linter.unusedVariables false
namespace Go.Proofs.YtjhenmegcgnkgaaX
open Go.RowKit Go.Proofs.Ytjhenmegcgnkgaa.PNode Go.Proofs.YtjhenmegcgnkgaaW.PrintWords Go.Proofs.YtjhenmegcgnkgaaW.PrintLast Go.Proofs.YtjhenmegcgnkgaaW.PrintMore

theorem awake_100 : chandlerylaw08_awake.f 100 = some true := by
  unfold chandlerylaw08_awake.f
  simp only [ByteArray.toList_eq]
  decide +kernel
theorem awake_ev : Ev (fun k => chandlerylaw08_awake.f k) true := Ev.of chandlerylaw08_awake.mono awake_100
end Go.Proofs.YtjhenmegcgnkgaaX
