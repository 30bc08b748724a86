/- A law for a region that draws its order, whose head only reads or calls functions that leave old memory alone, and beside which two new variables are allocated at whatever moments: the head is walked once, in the order of the text. No condition. -/
import Derived.Test.YtapegimghfflhaaN5

section
namespace Go.Proofs.Ytapegimghfflhaa
open Go.RowKit

section
variable {P : Program} {ops : Array Oper} {md : Region.Mode} {W : World}

def lexHead2 (md : Region.Mode) (ops : Array Oper) (g n : Nat) : Nat → Nat → Array Bool → Bool
  | 0, _, listed => Region.seqB md ops g (n + 1 + 1) listed
  | f + 1, k, listed => (Region.ready md ops listed).contains k && Region.free md ops listed k && lexHead2 md ops g n f (k + 1) (listed.setIfInBounds k true)

/-- A new variable lies at b, below it all is as it was. -/
structure NewBox (W w : World) (b : Nat) (zc : Obj) : Prop where
  ge : W.heap.size ≤ b
  at_ : w.heap[b]? = some zc
/-- What is asked of the region, as one Bool. -/
def allocB2 (md : Region.Mode) (ops : Array Oper) (n : Nat) : Bool :=
  Region.noSelect ops && decide (n + 1 + 1 < ops.size) && tailB md ops (n + 1) && lexHead2 md ops (ops.size - (n + 1 + 1)) n n 0 (((Array.replicate ops.size false).setIfInBounds n true).setIfInBounds (n + 1) true) &&
  (match ops[n]?, ops[n + 1]? with
   | some al, some al' => (al.after.all (fun e => !Region.binds md e) && al'.after.all (fun e => !Region.binds md e)) && al.apart ops al' && ((List.range n).all fun i => ((ops[i]?).map fun o => al.apart ops o).getD true) && ((List.range n).all fun i => ((ops[i]?).map fun o => al'.apart ops o).getD true)
   | _, _ => false)

end

end Go.Proofs.Ytapegimghfflhaa
end
