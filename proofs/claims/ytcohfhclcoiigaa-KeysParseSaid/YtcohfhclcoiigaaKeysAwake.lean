/- The chapter's examples, reckoned. -/
import Derived.Test.YtcohfhclcoiigaaQKeysx
set_option linter.unusedVariables false
namespace Go.Proofs.YtcohfhclcoiigaaX
open Go.RowKit Go.Proofs.Ytcohfhclcoiigaa.PKeys Go.Proofs.YtcohfhclcoiigaaW.PrintWords Go.Proofs.YtcohfhclcoiigaaW.PrintLast Go.Proofs.YtcohfhclcoiigaaW.PrintMore

theorem awake_20 : chandlerylaw11_awake.f 20 = some true := by
  unfold chandlerylaw11_awake.f
  simp only [keys_Parse.f, ByteArray.toList_eq]
  decide +kernel

theorem awake_ev : Ev (fun k => chandlerylaw11_awake.f k) true := Ev.of chandlerylaw11_awake.mono awake_20
end Go.Proofs.YtcohfhclcoiigaaX
