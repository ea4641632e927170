/- The chapter's examples, reckoned. -/
import Derived.Test.YtalbbifgkninmaaDoorQBasex3
import Derived.Test.YtalbbifgkninmaaDoorBaseSpec
set_option linter.unusedVariables false
namespace Go.Proofs.YtalbbifgkninmaaDoorX
open Go.RowKit Go.Proofs.YtalbbifgkninmaaDoor.PBase Go.Proofs.YtalbbifgkninmaaDoorW.PrintWords Go.Proofs.YtalbbifgkninmaaDoorW.PrintLast Go.Proofs.YtalbbifgkninmaaDoorW.PrintMore

theorem awake_20 : chandlerylaw02_awake.f 20 = some true := by
  unfold chandlerylaw02_awake.f
  simp only [ByteArray.toList_eq]
  decide +kernel

theorem awake_ev : Ev (fun k => chandlerylaw02_awake.f k) true := Ev.of chandlerylaw02_awake.mono awake_20

/-- Rows of bytes, as readings tell them. -/
theorem byt_of_wf {l : List Int} (h : ∀ x ∈ l, (Lit.int .u8 x).wf = true) : Byt l := fun x hx => u8_of_wf (h x hx)

end Go.Proofs.YtalbbifgkninmaaDoorX
