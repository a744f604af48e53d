/- The table's rows fit the program's types. No condition. -/
import Derived.Test.YtaaacaejpchbpaaGreatFacts
import Derived.Test.YtaaacaejpchbpaaGreatTab
import Derived.KernelRfl
namespace Go.Proofs.YtaaacaejpchbpaaGreat
namespace Ab
open Go
theorem tok : TOk Tryz.prog tyT := by
  refine tok_of 382 ty_ ⟨rfl, rfl, rfl, by simp [ty_]⟩ (fun t ht => ?_) (by kernel_rfl)
  have : Nat.blt t 382 = false := by
    cases q : Nat.blt t 382 with
    | false => rfl
    | true => exact absurd (Nat.le_of_ble_eq_true q) ht
  unfold tyT
  rw [this]; rfl
end Ab
end Go.Proofs.YtaaacaejpchbpaaGreat
