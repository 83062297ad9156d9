/-
  No cell of these rows narrows 'for every input' (looked for: loops, veiled, ifaces, maps, wideKeys, modest, calm, conditions, laid).
  DERIVED. THE GIVEN ROWS OF THIS SEAT. 7 by the template 'for every input the law returns true; each argument reads behind the call as it read before'; 0 by the template 'total and deterministic' (their statements: YteojodcdehkejaaTotals.lean).
  GIVEN WITH THE SEED: the statements are not yours to turn. If you find one false, say at which input.
  Laid BY PROGRAM, IN A SANDBOX (cutbox-rows.mjs): the forced cells as the released guide's own fill.sh prints them over the translation 484d32865c2a5822… (all of the seat's roots in one cut). By AI agents, Wed Nov 11 2026. No macro, syntax, notation, axiom, sorry.
-/
import Derived.Test.YteojodcdehkejaaChecked
import GoSem.Claim
import GoSem.ClaimJoined
import GoSem.ClaimMapViews
import Derived.JoinedTies
import Derived.KernelRfl
namespace Go.Proofs.Yteojodcdehkejaa
/- THE CELL 'sum', in the pinned program and in every row, IS THE sha256 OF THE DUMP (.gsa) THAT YteojodcdehkejaaProg.lean LOADS. Nothing in Lean hashes anything: it is a label: what it is worth is what the hold of that sum in a sandbox is worth. -/
noncomputable def Try.pinned : Pinned := { name := "yteojodcdehkejaa", sum := "484d32865c2a5822bb09ab3070ffa19935edd9cb29a8176eb77c77027811e6ad", checked := Try.checked }
namespace Rows
def none {H : Type} : Left H := { results := [], args := [] }

/-- 'millracelaw15.DRRMany': WHATEVER THE INPUT: true; the input reads as it did. -/
def dRRManySpec : ChangeSpec := { name := "dRRMany", fn := fun _ => fun
  | [d1, d2, d3] => { results := [.lit (.bool true)], args := [d1, d2, d3] }
  | _ => none }
def dRRManyRow : OpenClaim := { program := "yteojodcdehkejaa", sum := "484d32865c2a5822bb09ab3070ffa19935edd9cb29a8176eb77c77027811e6ad", func := "millrace/millracelaw15.DRRMany", spec := "dRRMany", unfollowed := true, recurses := true, apart := false }
def DRRManySaid : Prop := dRRManyRow.holds Try.pinned (OpenSpec.ofChange dRRManySpec)

/-- ITS FALSE NEIGHBOUR: 'it returns false'. Refute it at one input. -/
def dRRManyWrong : ChangeSpec := { name := "dRRMany", fn := fun _ => fun
  | [d1, d2, d3] => { results := [.lit (.bool false)], args := [d1, d2, d3] }
  | _ => none }
def DRRManyWrongFalsely : Prop := dRRManyRow.holds Try.pinned (OpenSpec.ofChange dRRManyWrong)

/-- 'millracelaw15.DRRFair': WHATEVER THE INPUT: true; the input reads as it did. -/
def dRRFairSpec : ChangeSpec := { name := "dRRFair", fn := fun _ => fun
  | [d1, d2] => { results := [.lit (.bool true)], args := [d1, d2] }
  | _ => none }
def dRRFairRow : OpenClaim := { program := "yteojodcdehkejaa", sum := "484d32865c2a5822bb09ab3070ffa19935edd9cb29a8176eb77c77027811e6ad", func := "millrace/millracelaw15.DRRFair", spec := "dRRFair", unfollowed := true, recurses := true, apart := false }
def DRRFairSaid : Prop := dRRFairRow.holds Try.pinned (OpenSpec.ofChange dRRFairSpec)

/-- ITS FALSE NEIGHBOUR: 'it returns false'. Refute it at one input. -/
def dRRFairWrong : ChangeSpec := { name := "dRRFair", fn := fun _ => fun
  | [d1, d2] => { results := [.lit (.bool false)], args := [d1, d2] }
  | _ => none }
def DRRFairWrongFalsely : Prop := dRRFairRow.holds Try.pinned (OpenSpec.ofChange dRRFairWrong)

/-- 'millracelaw15.DRRWaits': WHATEVER THE INPUT: true; the input reads as it did. -/
def dRRWaitsSpec : ChangeSpec := { name := "dRRWaits", fn := fun _ => fun
  | [d1, d2, d3, d4] => { results := [.lit (.bool true)], args := [d1, d2, d3, d4] }
  | _ => none }
def dRRWaitsRow : OpenClaim := { program := "yteojodcdehkejaa", sum := "484d32865c2a5822bb09ab3070ffa19935edd9cb29a8176eb77c77027811e6ad", func := "millrace/millracelaw15.DRRWaits", spec := "dRRWaits", unfollowed := true, recurses := true, apart := false }
def DRRWaitsSaid : Prop := dRRWaitsRow.holds Try.pinned (OpenSpec.ofChange dRRWaitsSpec)

/-- ITS FALSE NEIGHBOUR: 'it returns false'. Refute it at one input. -/
def dRRWaitsWrong : ChangeSpec := { name := "dRRWaits", fn := fun _ => fun
  | [d1, d2, d3, d4] => { results := [.lit (.bool false)], args := [d1, d2, d3, d4] }
  | _ => none }
def DRRWaitsWrongFalsely : Prop := dRRWaitsRow.holds Try.pinned (OpenSpec.ofChange dRRWaitsWrong)

/-- 'millracelaw15.DRRDeficits': WHATEVER THE INPUT: true; the input reads as it did. -/
def dRRDeficitsSpec : ChangeSpec := { name := "dRRDeficits", fn := fun _ => fun
  | [d1, d2] => { results := [.lit (.bool true)], args := [d1, d2] }
  | _ => none }
def dRRDeficitsRow : OpenClaim := { program := "yteojodcdehkejaa", sum := "484d32865c2a5822bb09ab3070ffa19935edd9cb29a8176eb77c77027811e6ad", func := "millrace/millracelaw15.DRRDeficits", spec := "dRRDeficits", unfollowed := true, recurses := true, apart := false }
def DRRDeficitsSaid : Prop := dRRDeficitsRow.holds Try.pinned (OpenSpec.ofChange dRRDeficitsSpec)

/-- ITS FALSE NEIGHBOUR: 'it returns false'. Refute it at one input. -/
def dRRDeficitsWrong : ChangeSpec := { name := "dRRDeficits", fn := fun _ => fun
  | [d1, d2] => { results := [.lit (.bool false)], args := [d1, d2] }
  | _ => none }
def DRRDeficitsWrongFalsely : Prop := dRRDeficitsRow.holds Try.pinned (OpenSpec.ofChange dRRDeficitsWrong)

/-- 'millracelaw15.DRRWorst': WHATEVER THE INPUT: true; the input reads as it did. -/
def dRRWorstSpec : ChangeSpec := { name := "dRRWorst", fn := fun _ => fun
  | [d1, d2, d3, d4] => { results := [.lit (.bool true)], args := [d1, d2, d3, d4] }
  | _ => none }
def dRRWorstRow : OpenClaim := { program := "yteojodcdehkejaa", sum := "484d32865c2a5822bb09ab3070ffa19935edd9cb29a8176eb77c77027811e6ad", func := "millrace/millracelaw15.DRRWorst", spec := "dRRWorst", unfollowed := true, recurses := true, apart := false }
def DRRWorstSaid : Prop := dRRWorstRow.holds Try.pinned (OpenSpec.ofChange dRRWorstSpec)

/-- ITS FALSE NEIGHBOUR: 'it returns false'. Refute it at one input. -/
def dRRWorstWrong : ChangeSpec := { name := "dRRWorst", fn := fun _ => fun
  | [d1, d2, d3, d4] => { results := [.lit (.bool false)], args := [d1, d2, d3, d4] }
  | _ => none }
def DRRWorstWrongFalsely : Prop := dRRWorstRow.holds Try.pinned (OpenSpec.ofChange dRRWorstWrong)

/-- 'millracelaw15.DRRPeeks': WHATEVER THE INPUT: true; the input reads as it did. -/
def dRRPeeksSpec : ChangeSpec := { name := "dRRPeeks", fn := fun _ => fun
  | [d1, d2] => { results := [.lit (.bool true)], args := [d1, d2] }
  | _ => none }
def dRRPeeksRow : OpenClaim := { program := "yteojodcdehkejaa", sum := "484d32865c2a5822bb09ab3070ffa19935edd9cb29a8176eb77c77027811e6ad", func := "millrace/millracelaw15.DRRPeeks", spec := "dRRPeeks", unfollowed := true, recurses := true, apart := false }
def DRRPeeksSaid : Prop := dRRPeeksRow.holds Try.pinned (OpenSpec.ofChange dRRPeeksSpec)

/-- ITS FALSE NEIGHBOUR: 'it returns false'. Refute it at one input. -/
def dRRPeeksWrong : ChangeSpec := { name := "dRRPeeks", fn := fun _ => fun
  | [d1, d2] => { results := [.lit (.bool false)], args := [d1, d2] }
  | _ => none }
def DRRPeeksWrongFalsely : Prop := dRRPeeksRow.holds Try.pinned (OpenSpec.ofChange dRRPeeksWrong)

/-- 'millracelaw15.DRRPlays': WHATEVER THE INPUT: true; the input reads as it did. -/
def dRRPlaysSpec : ChangeSpec := { name := "dRRPlays", fn := fun _ => fun
  | [d] => { results := [.lit (.bool true)], args := [d] }
  | _ => none }
def dRRPlaysRow : OpenClaim := { program := "yteojodcdehkejaa", sum := "484d32865c2a5822bb09ab3070ffa19935edd9cb29a8176eb77c77027811e6ad", func := "millrace/millracelaw15.DRRPlays", spec := "dRRPlays", unfollowed := true, recurses := true, apart := false }
def DRRPlaysSaid : Prop := dRRPlaysRow.holds Try.pinned (OpenSpec.ofChange dRRPlaysSpec)

/-- ITS FALSE NEIGHBOUR: 'it returns false'. Refute it at one input. -/
def dRRPlaysWrong : ChangeSpec := { name := "dRRPlays", fn := fun _ => fun
  | [d] => { results := [.lit (.bool false)], args := [d] }
  | _ => none }
def DRRPlaysWrongFalsely : Prop := dRRPlaysRow.holds Try.pinned (OpenSpec.ofChange dRRPlaysWrong)

/- THE SECOND FORM. 'bulk': how many values and letters a reading holds, each counted each time it is reached (what is shared counts as often as it is met; a slice's spare places count too). A statement '..UptoSaid' is the law's where the arguments, and the package variables that the reading takes, are together of bulk at most 1048576: NARROWER than '..Said'. Prove '..Said' where nothing that the law and all that it calls make is longer than what came in: it says more and counts as full. Else prove '..UptoSaid'. A law counts once. -/
mutual
def uptoBulk {H : Type} : DataW H → Nat
  | .lit (.string bytes) => bytes.length + 1
  | .lit _ => 1
  | .nil => 1
  | .ptr d => uptoBulk d + 1
  | .slice elems spare => uptoBulkAll elems + uptoBulkAll spare + 1
  | .agg parts => uptoBulkAll parts + 1
  | .iface _ d => uptoBulk d + 1
  | .map entries => uptoBulkEntries entries + 1
  | .held _ => 1
def uptoBulkAll {H : Type} : List (DataW H) → Nat
  | [] => 0
  | d :: r => uptoBulk d + uptoBulkAll r
def uptoBulkEntries {H : Type} : List (Lit × DataW H) → Nat
  | [] => 0
  | x :: r => uptoBulkEntry x + uptoBulkEntries r
def uptoBulkEntry {H : Type} : Lit × DataW H → Nat
  | (.string bytes, d) => bytes.length + uptoBulk d + 1
  | (_, d) => uptoBulk d + 1
 end
def uptoSmall : (H : Type) → List (DataW H) → Bool := fun _ ds => decide (uptoBulkAll ds ≤ 1048576)
def OpenSpec.upto (s : _root_.Go.ChangeSpec) : _root_.Go.OpenSpec := { _root_.Go.OpenSpec.ofChange s with cond := some uptoSmall }

/-- 'millracelaw15.DRRMany', WHERE WHAT IT READS IS OF BULK AT MOST 1048576: true; the input reads as it did. -/
def dRRManyUptoRow : OpenClaim := { program := "yteojodcdehkejaa", sum := "484d32865c2a5822bb09ab3070ffa19935edd9cb29a8176eb77c77027811e6ad", func := "millrace/millracelaw15.DRRMany", spec := "dRRMany", unfollowed := true, recurses := true, apart := false, narrowed := true }
def DRRManyUptoSaid : Prop := dRRManyUptoRow.holds Try.pinned (OpenSpec.upto dRRManySpec)

/-- 'millracelaw15.DRRFair', WHERE WHAT IT READS IS OF BULK AT MOST 1048576: true; the input reads as it did. -/
def dRRFairUptoRow : OpenClaim := { program := "yteojodcdehkejaa", sum := "484d32865c2a5822bb09ab3070ffa19935edd9cb29a8176eb77c77027811e6ad", func := "millrace/millracelaw15.DRRFair", spec := "dRRFair", unfollowed := true, recurses := true, apart := false, narrowed := true }
def DRRFairUptoSaid : Prop := dRRFairUptoRow.holds Try.pinned (OpenSpec.upto dRRFairSpec)

/-- 'millracelaw15.DRRWaits', WHERE WHAT IT READS IS OF BULK AT MOST 1048576: true; the input reads as it did. -/
def dRRWaitsUptoRow : OpenClaim := { program := "yteojodcdehkejaa", sum := "484d32865c2a5822bb09ab3070ffa19935edd9cb29a8176eb77c77027811e6ad", func := "millrace/millracelaw15.DRRWaits", spec := "dRRWaits", unfollowed := true, recurses := true, apart := false, narrowed := true }
def DRRWaitsUptoSaid : Prop := dRRWaitsUptoRow.holds Try.pinned (OpenSpec.upto dRRWaitsSpec)

/-- 'millracelaw15.DRRDeficits', WHERE WHAT IT READS IS OF BULK AT MOST 1048576: true; the input reads as it did. -/
def dRRDeficitsUptoRow : OpenClaim := { program := "yteojodcdehkejaa", sum := "484d32865c2a5822bb09ab3070ffa19935edd9cb29a8176eb77c77027811e6ad", func := "millrace/millracelaw15.DRRDeficits", spec := "dRRDeficits", unfollowed := true, recurses := true, apart := false, narrowed := true }
def DRRDeficitsUptoSaid : Prop := dRRDeficitsUptoRow.holds Try.pinned (OpenSpec.upto dRRDeficitsSpec)

/-- 'millracelaw15.DRRWorst', WHERE WHAT IT READS IS OF BULK AT MOST 1048576: true; the input reads as it did. -/
def dRRWorstUptoRow : OpenClaim := { program := "yteojodcdehkejaa", sum := "484d32865c2a5822bb09ab3070ffa19935edd9cb29a8176eb77c77027811e6ad", func := "millrace/millracelaw15.DRRWorst", spec := "dRRWorst", unfollowed := true, recurses := true, apart := false, narrowed := true }
def DRRWorstUptoSaid : Prop := dRRWorstUptoRow.holds Try.pinned (OpenSpec.upto dRRWorstSpec)

/-- 'millracelaw15.DRRPeeks', WHERE WHAT IT READS IS OF BULK AT MOST 1048576: true; the input reads as it did. -/
def dRRPeeksUptoRow : OpenClaim := { program := "yteojodcdehkejaa", sum := "484d32865c2a5822bb09ab3070ffa19935edd9cb29a8176eb77c77027811e6ad", func := "millrace/millracelaw15.DRRPeeks", spec := "dRRPeeks", unfollowed := true, recurses := true, apart := false, narrowed := true }
def DRRPeeksUptoSaid : Prop := dRRPeeksUptoRow.holds Try.pinned (OpenSpec.upto dRRPeeksSpec)

/-- 'millracelaw15.DRRPlays', WHERE WHAT IT READS IS OF BULK AT MOST 1048576: true; the input reads as it did. -/
def dRRPlaysUptoRow : OpenClaim := { program := "yteojodcdehkejaa", sum := "484d32865c2a5822bb09ab3070ffa19935edd9cb29a8176eb77c77027811e6ad", func := "millrace/millracelaw15.DRRPlays", spec := "dRRPlays", unfollowed := true, recurses := true, apart := false, narrowed := true }
def DRRPlaysUptoSaid : Prop := dRRPlaysUptoRow.holds Try.pinned (OpenSpec.upto dRRPlaysSpec)

end Rows
end Go.Proofs.Yteojodcdehkejaa
