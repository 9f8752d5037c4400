/- ExprRight, the document's. -/
import Derived.Test.YtfnacnlaphpflaaDoorRSame
namespace Go.Proofs.YtfnacnlaphpflaaDoor
open Go.RowKit Go.Kx
set_option maxRecDepth 100000

/-- right, and at most so deep -/
def rrB (nest : Nat) (e : Ex) : Bool := decide (e.tr.depth ≤ nest) && e.tr.right
def RRih (args : List Ex) (nest : Nat) : Prop := ∀ a ∈ args, ∀ w', Lies w' a → Calls Tryd.prog 22 #[a.val, .int .i64 ((nest : Int) - 1)] w' fun r w'' => r = .returned (.bool (rrB (nest - 1) a)) ∧ Only [] w' w''
end Go.Proofs.YtfnacnlaphpflaaDoor
