/-
  No cell of these rows narrows 'for every input' (looked for: loops, veiled, ifaces, maps, wideKeys, modest, calm, conditions, laid).
  DERIVED. THE GIVEN ROWS OF THIS SEAT. 6 by the template 'for every input the law returns true; each argument reads behind the call as it read before'; 0 by the template 'total and deterministic' (their statements: YtaaacaejpchbpaaGreatTotals.lean).
  GIVEN WITH THE SEED: the statements are not yours to turn. If you find one false, say at which input.
  Laid BY PROGRAM, IN A SANDBOX (cutbox-rows.mjs): the forced cells as the released guide's own fill.sh prints them over the translation 30861ae8583acd17… (all of the seat's roots in one cut). By AI agents, Wed Nov 11 2026. No macro, syntax, notation, axiom, sorry.
-/
import Derived.Test.YtaaacaejpchbpaaGreatChecked
import GoSem.Claim
import GoSem.ClaimJoined
import GoSem.ClaimMapViews
import Derived.JoinedTies
import Derived.KernelRfl
namespace Go.Proofs.YtaaacaejpchbpaaGreat
/- THE CELL 'sum', in the pinned program and in every row, IS THE sha256 OF THE DUMP (.gsa) THAT YtaaacaejpchbpaaGreatProg.lean LOADS. Nothing in Lean hashes anything: it is a label: what it is worth is what the hold of that sum in a sandbox is worth. -/
noncomputable def Tryz.pinned : Pinned := { name := "ytaaacaejpchbpaagreat", sum := "30861ae8583acd17c55bc77179eb481a15c8715ed452cc014a2ba3b6514915f2", checked := Tryz.checked }
namespace Rows
def none {H : Type} : Left H := { results := [], args := [] }

/-- 'pemmicanlaw27.SnapBack': WHATEVER THE INPUT: true; the input reads as it did. -/
def snapBackSpec : ChangeSpec := { name := "snapBack", fn := fun _ => fun
  | [d1, d2] => { results := [.lit (.bool true)], args := [d1, d2] }
  | _ => none }
def snapBackRow : OpenClaim := { program := "ytaaacaejpchbpaagreat", sum := "30861ae8583acd17c55bc77179eb481a15c8715ed452cc014a2ba3b6514915f2", func := "pemmican/pemmicanlaw27.SnapBack", spec := "snapBack", inPlace := ["internal/abi.NoEscape", "internal/bytealg.MakeNoZero"], unfollowed := true, recurses := true, apart := false }
def SnapBackSaid : Prop := snapBackRow.holds Tryz.pinned (OpenSpec.ofChange snapBackSpec)

/-- ITS FALSE NEIGHBOUR: 'it returns false'. Refute it at one input. -/
def snapBackWrong : ChangeSpec := { name := "snapBack", fn := fun _ => fun
  | [d1, d2] => { results := [.lit (.bool false)], args := [d1, d2] }
  | _ => none }
def SnapBackWrongFalsely : Prop := snapBackRow.holds Tryz.pinned (OpenSpec.ofChange snapBackWrong)

/-- 'pemmicanlaw19.TrainHelps': WHATEVER THE INPUT: true; the input reads as it did. -/
def trainHelpsSpec : ChangeSpec := { name := "trainHelps", fn := fun _ => fun
  | [d1, d2, d3] => { results := [.lit (.bool true)], args := [d1, d2, d3] }
  | _ => none }
def trainHelpsRow : OpenClaim := { program := "ytaaacaejpchbpaagreat", sum := "30861ae8583acd17c55bc77179eb481a15c8715ed452cc014a2ba3b6514915f2", func := "pemmican/pemmicanlaw19.TrainHelps", spec := "trainHelps", inPlace := ["internal/abi.NoEscape", "internal/bytealg.MakeNoZero"], unfollowed := true, recurses := true, apart := false }
def TrainHelpsSaid : Prop := trainHelpsRow.holds Tryz.pinned (OpenSpec.ofChange trainHelpsSpec)

/-- ITS FALSE NEIGHBOUR: 'it returns false'. Refute it at one input. -/
def trainHelpsWrong : ChangeSpec := { name := "trainHelps", fn := fun _ => fun
  | [d1, d2, d3] => { results := [.lit (.bool false)], args := [d1, d2, d3] }
  | _ => none }
def TrainHelpsWrongFalsely : Prop := trainHelpsRow.holds Tryz.pinned (OpenSpec.ofChange trainHelpsWrong)

/-- 'pemmicanlaw40.BatchBack': WHATEVER THE INPUT: true; the input reads as it did. -/
def batchBackSpec : ChangeSpec := { name := "batchBack", fn := fun _ => fun
  | [d1, d2, d3] => { results := [.lit (.bool true)], args := [d1, d2, d3] }
  | _ => none }
def batchBackRow : OpenClaim := { program := "ytaaacaejpchbpaagreat", sum := "30861ae8583acd17c55bc77179eb481a15c8715ed452cc014a2ba3b6514915f2", func := "pemmican/pemmicanlaw40.BatchBack", spec := "batchBack", inPlace := ["internal/abi.NoEscape", "internal/bytealg.MakeNoZero"], unfollowed := true, recurses := true, apart := false }
def BatchBackSaid : Prop := batchBackRow.holds Tryz.pinned (OpenSpec.ofChange batchBackSpec)

/-- ITS FALSE NEIGHBOUR: 'it returns false'. Refute it at one input. -/
def batchBackWrong : ChangeSpec := { name := "batchBack", fn := fun _ => fun
  | [d1, d2, d3] => { results := [.lit (.bool false)], args := [d1, d2, d3] }
  | _ => none }
def BatchBackWrongFalsely : Prop := batchBackRow.holds Tryz.pinned (OpenSpec.ofChange batchBackWrong)

/-- 'pemmicanlaw40.BatchAny': WHATEVER THE INPUT: true; the input reads as it did. -/
def batchAnySpec : ChangeSpec := { name := "batchAny", fn := fun _ => fun
  | [d1, d2] => { results := [.lit (.bool true)], args := [d1, d2] }
  | _ => none }
def batchAnyRow : OpenClaim := { program := "ytaaacaejpchbpaagreat", sum := "30861ae8583acd17c55bc77179eb481a15c8715ed452cc014a2ba3b6514915f2", func := "pemmican/pemmicanlaw40.BatchAny", spec := "batchAny", inPlace := ["internal/abi.NoEscape", "internal/bytealg.MakeNoZero"], unfollowed := true, recurses := true, apart := false }
def BatchAnySaid : Prop := batchAnyRow.holds Tryz.pinned (OpenSpec.ofChange batchAnySpec)

/-- ITS FALSE NEIGHBOUR: 'it returns false'. Refute it at one input. -/
def batchAnyWrong : ChangeSpec := { name := "batchAny", fn := fun _ => fun
  | [d1, d2] => { results := [.lit (.bool false)], args := [d1, d2] }
  | _ => none }
def BatchAnyWrongFalsely : Prop := batchAnyRow.holds Tryz.pinned (OpenSpec.ofChange batchAnyWrong)

/-- 'pemmicanlaw40.BatchSplits': WHATEVER THE INPUT: true; the input reads as it did. -/
def batchSplitsSpec : ChangeSpec := { name := "batchSplits", fn := fun _ => fun
  | [d1, d2] => { results := [.lit (.bool true)], args := [d1, d2] }
  | _ => none }
def batchSplitsRow : OpenClaim := { program := "ytaaacaejpchbpaagreat", sum := "30861ae8583acd17c55bc77179eb481a15c8715ed452cc014a2ba3b6514915f2", func := "pemmican/pemmicanlaw40.BatchSplits", spec := "batchSplits", inPlace := ["internal/abi.NoEscape", "internal/bytealg.MakeNoZero"], unfollowed := true, recurses := true, apart := false }
def BatchSplitsSaid : Prop := batchSplitsRow.holds Tryz.pinned (OpenSpec.ofChange batchSplitsSpec)

/-- ITS FALSE NEIGHBOUR: 'it returns false'. Refute it at one input. -/
def batchSplitsWrong : ChangeSpec := { name := "batchSplits", fn := fun _ => fun
  | [d1, d2] => { results := [.lit (.bool false)], args := [d1, d2] }
  | _ => none }
def BatchSplitsWrongFalsely : Prop := batchSplitsRow.holds Tryz.pinned (OpenSpec.ofChange batchSplitsWrong)

/-- 'pemmicanlaw31.TakeFeeds': WHATEVER THE INPUT: true; the input reads as it did. -/
def takeFeedsSpec : ChangeSpec := { name := "takeFeeds", fn := fun _ => fun
  | [d1, d2, d3] => { results := [.lit (.bool true)], args := [d1, d2, d3] }
  | _ => none }
def takeFeedsRow : OpenClaim := { program := "ytaaacaejpchbpaagreat", sum := "30861ae8583acd17c55bc77179eb481a15c8715ed452cc014a2ba3b6514915f2", func := "pemmican/pemmicanlaw31.TakeFeeds", spec := "takeFeeds", inPlace := ["internal/abi.NoEscape", "internal/bytealg.MakeNoZero"], unfollowed := true, recurses := true, apart := false }
def TakeFeedsSaid : Prop := takeFeedsRow.holds Tryz.pinned (OpenSpec.ofChange takeFeedsSpec)

/-- ITS FALSE NEIGHBOUR: 'it returns false'. Refute it at one input. -/
def takeFeedsWrong : ChangeSpec := { name := "takeFeeds", fn := fun _ => fun
  | [d1, d2, d3] => { results := [.lit (.bool false)], args := [d1, d2, d3] }
  | _ => none }
def TakeFeedsWrongFalsely : Prop := takeFeedsRow.holds Tryz.pinned (OpenSpec.ofChange takeFeedsWrong)

/- THE SECOND FORM. 'bulk': how many values and letters a reading holds, each counted each time it is reached (what is shared counts as often as it is met; a slice's spare places count too). A statement '..UptoSaid' is the law's where the arguments, and the package variables that the reading takes, are together of bulk at most 1048576: NARROWER than '..Said'. Prove '..Said' where nothing that the law and all that it calls make is longer than what came in: it says more and counts as full. Else prove '..UptoSaid'. A law counts once. -/
mutual
def uptoBulk {H : Type} : DataW H → Nat
  | .lit (.string bytes) => bytes.length + 1
  | .lit _ => 1
  | .nil => 1
  | .ptr d => uptoBulk d + 1
  | .slice elems spare => uptoBulkAll elems + uptoBulkAll spare + 1
  | .agg parts => uptoBulkAll parts + 1
  | .iface _ d => uptoBulk d + 1
  | .map entries => uptoBulkEntries entries + 1
  | .held _ => 1
def uptoBulkAll {H : Type} : List (DataW H) → Nat
  | [] => 0
  | d :: r => uptoBulk d + uptoBulkAll r
def uptoBulkEntries {H : Type} : List (Lit × DataW H) → Nat
  | [] => 0
  | x :: r => uptoBulkEntry x + uptoBulkEntries r
def uptoBulkEntry {H : Type} : Lit × DataW H → Nat
  | (.string bytes, d) => bytes.length + uptoBulk d + 1
  | (_, d) => uptoBulk d + 1
 end
def uptoSmall : (H : Type) → List (DataW H) → Bool := fun _ ds => decide (uptoBulkAll ds ≤ 1048576)
def OpenSpec.upto (s : _root_.Go.ChangeSpec) : _root_.Go.OpenSpec := { _root_.Go.OpenSpec.ofChange s with cond := some uptoSmall }

/-- 'pemmicanlaw27.SnapBack', WHERE WHAT IT READS IS OF BULK AT MOST 1048576: true; the input reads as it did. -/
def snapBackUptoRow : OpenClaim := { program := "ytaaacaejpchbpaagreat", sum := "30861ae8583acd17c55bc77179eb481a15c8715ed452cc014a2ba3b6514915f2", func := "pemmican/pemmicanlaw27.SnapBack", spec := "snapBack", inPlace := ["internal/abi.NoEscape", "internal/bytealg.MakeNoZero"], unfollowed := true, recurses := true, apart := false, narrowed := true }
def SnapBackUptoSaid : Prop := snapBackUptoRow.holds Tryz.pinned (OpenSpec.upto snapBackSpec)

/-- 'pemmicanlaw19.TrainHelps', WHERE WHAT IT READS IS OF BULK AT MOST 1048576: true; the input reads as it did. -/
def trainHelpsUptoRow : OpenClaim := { program := "ytaaacaejpchbpaagreat", sum := "30861ae8583acd17c55bc77179eb481a15c8715ed452cc014a2ba3b6514915f2", func := "pemmican/pemmicanlaw19.TrainHelps", spec := "trainHelps", inPlace := ["internal/abi.NoEscape", "internal/bytealg.MakeNoZero"], unfollowed := true, recurses := true, apart := false, narrowed := true }
def TrainHelpsUptoSaid : Prop := trainHelpsUptoRow.holds Tryz.pinned (OpenSpec.upto trainHelpsSpec)

/-- 'pemmicanlaw40.BatchBack', WHERE WHAT IT READS IS OF BULK AT MOST 1048576: true; the input reads as it did. -/
def batchBackUptoRow : OpenClaim := { program := "ytaaacaejpchbpaagreat", sum := "30861ae8583acd17c55bc77179eb481a15c8715ed452cc014a2ba3b6514915f2", func := "pemmican/pemmicanlaw40.BatchBack", spec := "batchBack", inPlace := ["internal/abi.NoEscape", "internal/bytealg.MakeNoZero"], unfollowed := true, recurses := true, apart := false, narrowed := true }
def BatchBackUptoSaid : Prop := batchBackUptoRow.holds Tryz.pinned (OpenSpec.upto batchBackSpec)

/-- 'pemmicanlaw40.BatchAny', WHERE WHAT IT READS IS OF BULK AT MOST 1048576: true; the input reads as it did. -/
def batchAnyUptoRow : OpenClaim := { program := "ytaaacaejpchbpaagreat", sum := "30861ae8583acd17c55bc77179eb481a15c8715ed452cc014a2ba3b6514915f2", func := "pemmican/pemmicanlaw40.BatchAny", spec := "batchAny", inPlace := ["internal/abi.NoEscape", "internal/bytealg.MakeNoZero"], unfollowed := true, recurses := true, apart := false, narrowed := true }
def BatchAnyUptoSaid : Prop := batchAnyUptoRow.holds Tryz.pinned (OpenSpec.upto batchAnySpec)

/-- 'pemmicanlaw40.BatchSplits', WHERE WHAT IT READS IS OF BULK AT MOST 1048576: true; the input reads as it did. -/
def batchSplitsUptoRow : OpenClaim := { program := "ytaaacaejpchbpaagreat", sum := "30861ae8583acd17c55bc77179eb481a15c8715ed452cc014a2ba3b6514915f2", func := "pemmican/pemmicanlaw40.BatchSplits", spec := "batchSplits", inPlace := ["internal/abi.NoEscape", "internal/bytealg.MakeNoZero"], unfollowed := true, recurses := true, apart := false, narrowed := true }
def BatchSplitsUptoSaid : Prop := batchSplitsUptoRow.holds Tryz.pinned (OpenSpec.upto batchSplitsSpec)

/-- 'pemmicanlaw31.TakeFeeds', WHERE WHAT IT READS IS OF BULK AT MOST 1048576: true; the input reads as it did. -/
def takeFeedsUptoRow : OpenClaim := { program := "ytaaacaejpchbpaagreat", sum := "30861ae8583acd17c55bc77179eb481a15c8715ed452cc014a2ba3b6514915f2", func := "pemmican/pemmicanlaw31.TakeFeeds", spec := "takeFeeds", inPlace := ["internal/abi.NoEscape", "internal/bytealg.MakeNoZero"], unfollowed := true, recurses := true, apart := false, narrowed := true }
def TakeFeedsUptoSaid : Prop := takeFeedsUptoRow.holds Tryz.pinned (OpenSpec.upto takeFeedsSpec)

end Rows
end Go.Proofs.YtaaacaejpchbpaaGreat
