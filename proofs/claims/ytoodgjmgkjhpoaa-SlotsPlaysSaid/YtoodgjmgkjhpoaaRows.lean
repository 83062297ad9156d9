/-
  No cell of these rows narrows 'for every input' (looked for: loops, veiled, ifaces, maps, wideKeys, modest, calm, conditions, laid).
  DERIVED. THE GIVEN ROWS OF THIS SEAT. 7 by the template 'for every input the law returns true; each argument reads behind the call as it read before'; 0 by the template 'total and deterministic' (their statements: YtoodgjmgkjhpoaaTotals.lean).
  GIVEN WITH THE SEED: the statements are not yours to turn. If you find one false, say at which input.
  Laid BY PROGRAM, IN A SANDBOX (cutbox-rows.mjs): the forced cells as the released guide's own fill.sh prints them over the translation d669e1086160fd6b… (all of the seat's roots in one cut). By AI agents, Wed Nov 11 2026. No macro, syntax, notation, axiom, sorry.
-/
import Derived.Test.YtoodgjmgkjhpoaaChecked
import GoSem.Claim
import GoSem.ClaimJoined
import GoSem.ClaimMapViews
import Derived.JoinedTies
import Derived.KernelRfl
namespace Go.Proofs.Ytoodgjmgkjhpoaa
/- THE CELL 'sum', in the pinned program and in every row, IS THE sha256 OF THE DUMP (.gsa) THAT YtoodgjmgkjhpoaaProg.lean LOADS. Nothing in Lean hashes anything: it is a label: what it is worth is what the hold of that sum in a sandbox is worth. -/
noncomputable def Try.pinned : Pinned := { name := "ytoodgjmgkjhpoaa", sum := "d669e1086160fd6b4fe1493b30e173910c058ed9f77f63388c7ef53e873a6dad", checked := Try.checked }
namespace Rows
def none {H : Type} : Left H := { results := [], args := [] }

/-- 'millracelaw6.SlotsAges': WHATEVER THE INPUT: true; the input reads as it did. -/
def slotsAgesSpec : ChangeSpec := { name := "slotsAges", fn := fun _ => fun
  | [d1, d2, d3] => { results := [.lit (.bool true)], args := [d1, d2, d3] }
  | _ => none }
def slotsAgesRow : OpenClaim := { program := "ytoodgjmgkjhpoaa", sum := "d669e1086160fd6b4fe1493b30e173910c058ed9f77f63388c7ef53e873a6dad", func := "millrace/millracelaw6.SlotsAges", spec := "slotsAges", apart := false }
def SlotsAgesSaid : Prop := slotsAgesRow.holds Try.pinned (OpenSpec.ofChange slotsAgesSpec)

/-- ITS FALSE NEIGHBOUR: 'it returns false'. Refute it at one input. -/
def slotsAgesWrong : ChangeSpec := { name := "slotsAges", fn := fun _ => fun
  | [d1, d2, d3] => { results := [.lit (.bool false)], args := [d1, d2, d3] }
  | _ => none }
def SlotsAgesWrongFalsely : Prop := slotsAgesRow.holds Try.pinned (OpenSpec.ofChange slotsAgesWrong)

/-- 'millracelaw6.SlotsTexts': WHATEVER THE INPUT: true; the input reads as it did. -/
def slotsTextsSpec : ChangeSpec := { name := "slotsTexts", fn := fun _ => fun
  | [d] => { results := [.lit (.bool true)], args := [d] }
  | _ => none }
def slotsTextsRow : OpenClaim := { program := "ytoodgjmgkjhpoaa", sum := "d669e1086160fd6b4fe1493b30e173910c058ed9f77f63388c7ef53e873a6dad", func := "millrace/millracelaw6.SlotsTexts", spec := "slotsTexts", apart := false }
def SlotsTextsSaid : Prop := slotsTextsRow.holds Try.pinned (OpenSpec.ofChange slotsTextsSpec)

/-- ITS FALSE NEIGHBOUR: 'it returns false'. Refute it at one input. -/
def slotsTextsWrong : ChangeSpec := { name := "slotsTexts", fn := fun _ => fun
  | [d] => { results := [.lit (.bool false)], args := [d] }
  | _ => none }
def SlotsTextsWrongFalsely : Prop := slotsTextsRow.holds Try.pinned (OpenSpec.ofChange slotsTextsWrong)

/-- 'millracelaw4.RingLong': WHATEVER THE INPUT: true; the input reads as it did. -/
def ringLongSpec : ChangeSpec := { name := "ringLong", fn := fun _ => fun
  | [d1, d2] => { results := [.lit (.bool true)], args := [d1, d2] }
  | _ => none }
def ringLongRow : OpenClaim := { program := "ytoodgjmgkjhpoaa", sum := "d669e1086160fd6b4fe1493b30e173910c058ed9f77f63388c7ef53e873a6dad", func := "millrace/millracelaw4.RingLong", spec := "ringLong", unfollowed := true, recurses := true, apart := false }
def RingLongSaid : Prop := ringLongRow.holds Try.pinned (OpenSpec.ofChange ringLongSpec)

/-- ITS FALSE NEIGHBOUR: 'it returns false'. Refute it at one input. -/
def ringLongWrong : ChangeSpec := { name := "ringLong", fn := fun _ => fun
  | [d1, d2] => { results := [.lit (.bool false)], args := [d1, d2] }
  | _ => none }
def RingLongWrongFalsely : Prop := ringLongRow.holds Try.pinned (OpenSpec.ofChange ringLongWrong)

/-- 'millracelaw4.RingTurns': WHATEVER THE INPUT: true; the input reads as it did. -/
def ringTurnsSpec : ChangeSpec := { name := "ringTurns", fn := fun _ => fun
  | [d1, d2, d3] => { results := [.lit (.bool true)], args := [d1, d2, d3] }
  | _ => none }
def ringTurnsRow : OpenClaim := { program := "ytoodgjmgkjhpoaa", sum := "d669e1086160fd6b4fe1493b30e173910c058ed9f77f63388c7ef53e873a6dad", func := "millrace/millracelaw4.RingTurns", spec := "ringTurns", unfollowed := true, recurses := true, apart := false }
def RingTurnsSaid : Prop := ringTurnsRow.holds Try.pinned (OpenSpec.ofChange ringTurnsSpec)

/-- ITS FALSE NEIGHBOUR: 'it returns false'. Refute it at one input. -/
def ringTurnsWrong : ChangeSpec := { name := "ringTurns", fn := fun _ => fun
  | [d1, d2, d3] => { results := [.lit (.bool false)], args := [d1, d2, d3] }
  | _ => none }
def RingTurnsWrongFalsely : Prop := ringTurnsRow.holds Try.pinned (OpenSpec.ofChange ringTurnsWrong)

/-- 'millracelaw4.RingTexts': WHATEVER THE INPUT: true; the input reads as it did. -/
def ringTextsSpec : ChangeSpec := { name := "ringTexts", fn := fun _ => fun
  | [d1, d2] => { results := [.lit (.bool true)], args := [d1, d2] }
  | _ => none }
def ringTextsRow : OpenClaim := { program := "ytoodgjmgkjhpoaa", sum := "d669e1086160fd6b4fe1493b30e173910c058ed9f77f63388c7ef53e873a6dad", func := "millrace/millracelaw4.RingTexts", spec := "ringTexts", unfollowed := true, recurses := true, apart := false }
def RingTextsSaid : Prop := ringTextsRow.holds Try.pinned (OpenSpec.ofChange ringTextsSpec)

/-- ITS FALSE NEIGHBOUR: 'it returns false'. Refute it at one input. -/
def ringTextsWrong : ChangeSpec := { name := "ringTexts", fn := fun _ => fun
  | [d1, d2] => { results := [.lit (.bool false)], args := [d1, d2] }
  | _ => none }
def RingTextsWrongFalsely : Prop := ringTextsRow.holds Try.pinned (OpenSpec.ofChange ringTextsWrong)

/-- 'millracelaw4.RingPlays': WHATEVER THE INPUT: true; the input reads as it did. -/
def ringPlaysSpec : ChangeSpec := { name := "ringPlays", fn := fun _ => fun
  | [d] => { results := [.lit (.bool true)], args := [d] }
  | _ => none }
def ringPlaysRow : OpenClaim := { program := "ytoodgjmgkjhpoaa", sum := "d669e1086160fd6b4fe1493b30e173910c058ed9f77f63388c7ef53e873a6dad", func := "millrace/millracelaw4.RingPlays", spec := "ringPlays", unfollowed := true, recurses := true, apart := false }
def RingPlaysSaid : Prop := ringPlaysRow.holds Try.pinned (OpenSpec.ofChange ringPlaysSpec)

/-- ITS FALSE NEIGHBOUR: 'it returns false'. Refute it at one input. -/
def ringPlaysWrong : ChangeSpec := { name := "ringPlays", fn := fun _ => fun
  | [d] => { results := [.lit (.bool false)], args := [d] }
  | _ => none }
def RingPlaysWrongFalsely : Prop := ringPlaysRow.holds Try.pinned (OpenSpec.ofChange ringPlaysWrong)

/-- 'millracelaw6.SlotsPlays': WHATEVER THE INPUT: true; the input reads as it did. -/
def slotsPlaysSpec : ChangeSpec := { name := "slotsPlays", fn := fun _ => fun
  | [d1, d2, d3] => { results := [.lit (.bool true)], args := [d1, d2, d3] }
  | _ => none }
def slotsPlaysRow : OpenClaim := { program := "ytoodgjmgkjhpoaa", sum := "d669e1086160fd6b4fe1493b30e173910c058ed9f77f63388c7ef53e873a6dad", func := "millrace/millracelaw6.SlotsPlays", spec := "slotsPlays", unfollowed := true, recurses := true, apart := false }
def SlotsPlaysSaid : Prop := slotsPlaysRow.holds Try.pinned (OpenSpec.ofChange slotsPlaysSpec)

/-- ITS FALSE NEIGHBOUR: 'it returns false'. Refute it at one input. -/
def slotsPlaysWrong : ChangeSpec := { name := "slotsPlays", fn := fun _ => fun
  | [d1, d2, d3] => { results := [.lit (.bool false)], args := [d1, d2, d3] }
  | _ => none }
def SlotsPlaysWrongFalsely : Prop := slotsPlaysRow.holds Try.pinned (OpenSpec.ofChange slotsPlaysWrong)

/- THE SECOND FORM. 'bulk': how many values and letters a reading holds, each counted each time it is reached (what is shared counts as often as it is met; a slice's spare places count too). A statement '..UptoSaid' is the law's where the arguments, and the package variables that the reading takes, are together of bulk at most 1048576: NARROWER than '..Said'. Prove '..Said' where nothing that the law and all that it calls make is longer than what came in: it says more and counts as full. Else prove '..UptoSaid'. A law counts once. -/
mutual
def uptoBulk {H : Type} : DataW H → Nat
  | .lit (.string bytes) => bytes.length + 1
  | .lit _ => 1
  | .nil => 1
  | .ptr d => uptoBulk d + 1
  | .slice elems spare => uptoBulkAll elems + uptoBulkAll spare + 1
  | .agg parts => uptoBulkAll parts + 1
  | .iface _ d => uptoBulk d + 1
  | .map entries => uptoBulkEntries entries + 1
  | .held _ => 1
def uptoBulkAll {H : Type} : List (DataW H) → Nat
  | [] => 0
  | d :: r => uptoBulk d + uptoBulkAll r
def uptoBulkEntries {H : Type} : List (Lit × DataW H) → Nat
  | [] => 0
  | x :: r => uptoBulkEntry x + uptoBulkEntries r
def uptoBulkEntry {H : Type} : Lit × DataW H → Nat
  | (.string bytes, d) => bytes.length + uptoBulk d + 1
  | (_, d) => uptoBulk d + 1
 end
def uptoSmall : (H : Type) → List (DataW H) → Bool := fun _ ds => decide (uptoBulkAll ds ≤ 1048576)
def OpenSpec.upto (s : _root_.Go.ChangeSpec) : _root_.Go.OpenSpec := { _root_.Go.OpenSpec.ofChange s with cond := some uptoSmall }

/-- 'millracelaw6.SlotsAges', WHERE WHAT IT READS IS OF BULK AT MOST 1048576: true; the input reads as it did. -/
def slotsAgesUptoRow : OpenClaim := { program := "ytoodgjmgkjhpoaa", sum := "d669e1086160fd6b4fe1493b30e173910c058ed9f77f63388c7ef53e873a6dad", func := "millrace/millracelaw6.SlotsAges", spec := "slotsAges", apart := false, narrowed := true }
def SlotsAgesUptoSaid : Prop := slotsAgesUptoRow.holds Try.pinned (OpenSpec.upto slotsAgesSpec)

/-- 'millracelaw6.SlotsTexts', WHERE WHAT IT READS IS OF BULK AT MOST 1048576: true; the input reads as it did. -/
def slotsTextsUptoRow : OpenClaim := { program := "ytoodgjmgkjhpoaa", sum := "d669e1086160fd6b4fe1493b30e173910c058ed9f77f63388c7ef53e873a6dad", func := "millrace/millracelaw6.SlotsTexts", spec := "slotsTexts", apart := false, narrowed := true }
def SlotsTextsUptoSaid : Prop := slotsTextsUptoRow.holds Try.pinned (OpenSpec.upto slotsTextsSpec)

/-- 'millracelaw4.RingLong', WHERE WHAT IT READS IS OF BULK AT MOST 1048576: true; the input reads as it did. -/
def ringLongUptoRow : OpenClaim := { program := "ytoodgjmgkjhpoaa", sum := "d669e1086160fd6b4fe1493b30e173910c058ed9f77f63388c7ef53e873a6dad", func := "millrace/millracelaw4.RingLong", spec := "ringLong", unfollowed := true, recurses := true, apart := false, narrowed := true }
def RingLongUptoSaid : Prop := ringLongUptoRow.holds Try.pinned (OpenSpec.upto ringLongSpec)

/-- 'millracelaw4.RingTurns', WHERE WHAT IT READS IS OF BULK AT MOST 1048576: true; the input reads as it did. -/
def ringTurnsUptoRow : OpenClaim := { program := "ytoodgjmgkjhpoaa", sum := "d669e1086160fd6b4fe1493b30e173910c058ed9f77f63388c7ef53e873a6dad", func := "millrace/millracelaw4.RingTurns", spec := "ringTurns", unfollowed := true, recurses := true, apart := false, narrowed := true }
def RingTurnsUptoSaid : Prop := ringTurnsUptoRow.holds Try.pinned (OpenSpec.upto ringTurnsSpec)

/-- 'millracelaw4.RingTexts', WHERE WHAT IT READS IS OF BULK AT MOST 1048576: true; the input reads as it did. -/
def ringTextsUptoRow : OpenClaim := { program := "ytoodgjmgkjhpoaa", sum := "d669e1086160fd6b4fe1493b30e173910c058ed9f77f63388c7ef53e873a6dad", func := "millrace/millracelaw4.RingTexts", spec := "ringTexts", unfollowed := true, recurses := true, apart := false, narrowed := true }
def RingTextsUptoSaid : Prop := ringTextsUptoRow.holds Try.pinned (OpenSpec.upto ringTextsSpec)

/-- 'millracelaw4.RingPlays', WHERE WHAT IT READS IS OF BULK AT MOST 1048576: true; the input reads as it did. -/
def ringPlaysUptoRow : OpenClaim := { program := "ytoodgjmgkjhpoaa", sum := "d669e1086160fd6b4fe1493b30e173910c058ed9f77f63388c7ef53e873a6dad", func := "millrace/millracelaw4.RingPlays", spec := "ringPlays", unfollowed := true, recurses := true, apart := false, narrowed := true }
def RingPlaysUptoSaid : Prop := ringPlaysUptoRow.holds Try.pinned (OpenSpec.upto ringPlaysSpec)

/-- 'millracelaw6.SlotsPlays', WHERE WHAT IT READS IS OF BULK AT MOST 1048576: true; the input reads as it did. -/
def slotsPlaysUptoRow : OpenClaim := { program := "ytoodgjmgkjhpoaa", sum := "d669e1086160fd6b4fe1493b30e173910c058ed9f77f63388c7ef53e873a6dad", func := "millrace/millracelaw6.SlotsPlays", spec := "slotsPlays", unfollowed := true, recurses := true, apart := false, narrowed := true }
def SlotsPlaysUptoSaid : Prop := slotsPlaysUptoRow.holds Try.pinned (OpenSpec.upto slotsPlaysSpec)

end Rows
end Go.Proofs.Ytoodgjmgkjhpoaa
