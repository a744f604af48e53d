/- The literals of the first record, reckoned by the kernel. No condition. -/
import Derived.Test.YtaaacaejpchbpaaGreatAw
set_option linter.unusedVariables false
set_option maxRecDepth 100000
namespace Go.Proofs.YtaaacaejpchbpaaGreat
namespace Ab
open Go
theorem lits_abc : gives (run (BT pr1) 50000 120 1 [.string abc] nil0) (.string ⟨#[0, 3, 97, 98, 99]⟩) = true := by kernel_rfl
def pr2 : Prims := ext pr1 120 (row1 [.string abc] (.string ⟨#[0, 3, 97, 98, 99]⟩))
theorem pr2_ok : PrimOk pr2 := ext_row1 pr1_ok 50000 _ _ (by decide) (by decide) lits_abc
end Ab
end Go.Proofs.YtaaacaejpchbpaaGreat
