/- A list, turned. -/
import Derived.Test.YteojodcdehkejaaRingCore
namespace Go.Proofs.Yteojodcdehkejaa

/-- the list turned by k places -/
def rot {β : Type} (xs : List β) (k : Nat) : List β := xs.drop k ++ xs.take k
end Go.Proofs.Yteojodcdehkejaa
