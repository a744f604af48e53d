/- What a region that draws its order must show of itself, told by looking at it alone. No condition. -/
import Derived.Test.YtaaacaejpchbpaaGreatAb
set_option linter.unusedVariables false
namespace Go.Proofs.YtaaacaejpchbpaaGreat
namespace Ab
open Go

/-- The order: each index is in range and new, what binds it stands before it; behind a heavy one all is bound after it; two that are not bound do not touch. -/
def okFrom (ops : List Oper) (bs : List Nat) : Nat → List Nat → Bool
  | _, [] => true
  | done, i :: is =>
    (match ops[i]? with
    | some o =>
      (!done.testBit i) && (o.after.toList.all fun e => !Region.binds .any e || done.testBit e.on) &&
      (match heavy o with | true => is.all fun j => (bs.getD j 0).testBit i | false => true) &&
      (is.all fun j => (bs.getD j 0).testBit i || match ops[j]? with | some p => o.apart ops.toArray p | none => false) &&
      (match o.guard with | some (g, _) => (bs.getD i 0).testBit g | none => true)
    | none => false) && okFrom ops bs (done ||| 2 ^ i) is
def okD (ops : List Oper) : Bool :=
  ((List.range ops.length).all fun j => (canon ops (bef ops) ops.length 0 (List.range ops.length)).contains j) && okFrom ops (bef ops) 0 (canon ops (bef ops) ops.length 0 (List.range ops.length))
def okOps (n : Nat) (ops : List Oper) : Bool := ops.all fun o => match o.dst with | some d => decide (d < n) | none => true
def okCode (n : Nat) : Code → Bool
  | .seq a b => okCode n a && okCode n b
  | .cond _ a b => okCode n a && okCode n b
  | .block _ c => okCode n c
  | .loop c => okCode n c
  | .region _ ops d => okOps n ops.toList && (match d with | true => okD ops.toList | false => true)
  | _ => true
end Ab
end Go.Proofs.YtaaacaejpchbpaaGreat
