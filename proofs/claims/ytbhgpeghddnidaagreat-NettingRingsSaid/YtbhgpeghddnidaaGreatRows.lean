/-
  No cell of these rows narrows 'for every input' (looked for: loops, veiled, ifaces, maps, wideKeys, modest, calm, conditions, laid).
  DERIVED. THE GIVEN ROWS OF THIS SEAT. 4 by the template 'for every input the law returns true; each argument reads behind the call as it read before'; 0 by the template 'total and deterministic' (their statements: YtbhgpeghddnidaaGreatTotals.lean).
  GIVEN WITH THE SEED: the statements are not yours to turn. If you find one false, say at which input.
  Laid BY PROGRAM, IN A SANDBOX (cutbox-rows.mjs): the forced cells as the released guide's own fill.sh prints them over the translation 0d4e17943d9a6211… (all of the seat's roots in one cut). By AI agents, Wed Nov 11 2026. No macro, syntax, notation, axiom, sorry.
-/
import Derived.Test.YtbhgpeghddnidaaGreatChecked
import GoSem.Claim
import GoSem.ClaimJoined
import GoSem.ClaimMapViews
import Derived.JoinedTies
import Derived.KernelRfl
namespace Go.Proofs.YtbhgpeghddnidaaGreat
/- THE CELL 'sum', in the pinned program and in every row, IS THE sha256 OF THE DUMP (.gsa) THAT YtbhgpeghddnidaaGreatProg.lean LOADS. Nothing in Lean hashes anything: it is a label: what it is worth is what the hold of that sum in a sandbox is worth. -/
noncomputable def Tryz.pinned : Pinned := { name := "ytbhgpeghddnidaagreat", sum := "0d4e17943d9a6211a1d48dc66732abd3b0d33881270f73063e4c8cd2bcdf7802", checked := Tryz.checked }
namespace Rows
def none {H : Type} : Left H := { results := [], args := [] }

/-- 'supercargolaw41.NettingPositions': WHATEVER THE INPUT: true; the input reads as it did. -/
def nettingPositionsSpec : ChangeSpec := { name := "nettingPositions", fn := fun _ => fun
  | [d1, d2] => { results := [.lit (.bool true)], args := [d1, d2] }
  | _ => none }
def nettingPositionsRow : OpenClaim := { program := "ytbhgpeghddnidaagreat", sum := "0d4e17943d9a6211a1d48dc66732abd3b0d33881270f73063e4c8cd2bcdf7802", func := "supercargo/supercargolaw41.NettingPositions", spec := "nettingPositions", unfollowed := true, recurses := true, plainKeys := false, apart := false }
def NettingPositionsSaid : Prop := nettingPositionsRow.holds Tryz.pinned (OpenSpec.ofChange nettingPositionsSpec)

/-- ITS FALSE NEIGHBOUR: 'it returns false'. Refute it at one input. -/
def nettingPositionsWrong : ChangeSpec := { name := "nettingPositions", fn := fun _ => fun
  | [d1, d2] => { results := [.lit (.bool false)], args := [d1, d2] }
  | _ => none }
def NettingPositionsWrongFalsely : Prop := nettingPositionsRow.holds Tryz.pinned (OpenSpec.ofChange nettingPositionsWrong)

/-- 'supercargolaw41.NettingPairs': WHATEVER THE INPUT: true; the input reads as it did. -/
def nettingPairsSpec : ChangeSpec := { name := "nettingPairs", fn := fun _ => fun
  | [d] => { results := [.lit (.bool true)], args := [d] }
  | _ => none }
def nettingPairsRow : OpenClaim := { program := "ytbhgpeghddnidaagreat", sum := "0d4e17943d9a6211a1d48dc66732abd3b0d33881270f73063e4c8cd2bcdf7802", func := "supercargo/supercargolaw41.NettingPairs", spec := "nettingPairs", unfollowed := true, recurses := true, plainKeys := false, apart := false }
def NettingPairsSaid : Prop := nettingPairsRow.holds Tryz.pinned (OpenSpec.ofChange nettingPairsSpec)

/-- ITS FALSE NEIGHBOUR: 'it returns false'. Refute it at one input. -/
def nettingPairsWrong : ChangeSpec := { name := "nettingPairs", fn := fun _ => fun
  | [d] => { results := [.lit (.bool false)], args := [d] }
  | _ => none }
def NettingPairsWrongFalsely : Prop := nettingPairsRow.holds Tryz.pinned (OpenSpec.ofChange nettingPairsWrong)

/-- 'supercargolaw41.NettingNets': WHATEVER THE INPUT: true; the input reads as it did. -/
def nettingNetsSpec : ChangeSpec := { name := "nettingNets", fn := fun _ => fun
  | [d] => { results := [.lit (.bool true)], args := [d] }
  | _ => none }
def nettingNetsRow : OpenClaim := { program := "ytbhgpeghddnidaagreat", sum := "0d4e17943d9a6211a1d48dc66732abd3b0d33881270f73063e4c8cd2bcdf7802", func := "supercargo/supercargolaw41.NettingNets", spec := "nettingNets", unfollowed := true, recurses := true, plainKeys := false, apart := false }
def NettingNetsSaid : Prop := nettingNetsRow.holds Tryz.pinned (OpenSpec.ofChange nettingNetsSpec)

/-- ITS FALSE NEIGHBOUR: 'it returns false'. Refute it at one input. -/
def nettingNetsWrong : ChangeSpec := { name := "nettingNets", fn := fun _ => fun
  | [d] => { results := [.lit (.bool false)], args := [d] }
  | _ => none }
def NettingNetsWrongFalsely : Prop := nettingNetsRow.holds Tryz.pinned (OpenSpec.ofChange nettingNetsWrong)

/-- 'supercargolaw41.NettingRings': WHATEVER THE INPUT: true; the input reads as it did. -/
def nettingRingsSpec : ChangeSpec := { name := "nettingRings", fn := fun _ => fun
  | [d] => { results := [.lit (.bool true)], args := [d] }
  | _ => none }
def nettingRingsRow : OpenClaim := { program := "ytbhgpeghddnidaagreat", sum := "0d4e17943d9a6211a1d48dc66732abd3b0d33881270f73063e4c8cd2bcdf7802", func := "supercargo/supercargolaw41.NettingRings", spec := "nettingRings", unfollowed := true, recurses := true, plainKeys := false, apart := false }
def NettingRingsSaid : Prop := nettingRingsRow.holds Tryz.pinned (OpenSpec.ofChange nettingRingsSpec)

/-- ITS FALSE NEIGHBOUR: 'it returns false'. Refute it at one input. -/
def nettingRingsWrong : ChangeSpec := { name := "nettingRings", fn := fun _ => fun
  | [d] => { results := [.lit (.bool false)], args := [d] }
  | _ => none }
def NettingRingsWrongFalsely : Prop := nettingRingsRow.holds Tryz.pinned (OpenSpec.ofChange nettingRingsWrong)

/- THE SECOND FORM. 'bulk': how many values and letters a reading holds, each counted each time it is reached (what is shared counts as often as it is met; a slice's spare places count too). A statement '..UptoSaid' is the law's where the arguments, and the package variables that the reading takes, are together of bulk at most 1048576: NARROWER than '..Said'. Prove '..Said' where nothing that the law and all that it calls make is longer than what came in: it says more and counts as full. Else prove '..UptoSaid'. A law counts once. -/
mutual
def uptoBulk {H : Type} : DataW H → Nat
  | .lit (.string bytes) => bytes.length + 1
  | .lit _ => 1
  | .nil => 1
  | .ptr d => uptoBulk d + 1
  | .slice elems spare => uptoBulkAll elems + uptoBulkAll spare + 1
  | .agg parts => uptoBulkAll parts + 1
  | .iface _ d => uptoBulk d + 1
  | .map entries => uptoBulkEntries entries + 1
  | .held _ => 1
def uptoBulkAll {H : Type} : List (DataW H) → Nat
  | [] => 0
  | d :: r => uptoBulk d + uptoBulkAll r
def uptoBulkEntries {H : Type} : List (Lit × DataW H) → Nat
  | [] => 0
  | x :: r => uptoBulkEntry x + uptoBulkEntries r
def uptoBulkEntry {H : Type} : Lit × DataW H → Nat
  | (.string bytes, d) => bytes.length + uptoBulk d + 1
  | (_, d) => uptoBulk d + 1
 end
def uptoSmall : (H : Type) → List (DataW H) → Bool := fun _ ds => decide (uptoBulkAll ds ≤ 1048576)
def OpenSpec.upto (s : _root_.Go.ChangeSpec) : _root_.Go.OpenSpec := { _root_.Go.OpenSpec.ofChange s with cond := some uptoSmall }

/-- 'supercargolaw41.NettingPositions', WHERE WHAT IT READS IS OF BULK AT MOST 1048576: true; the input reads as it did. -/
def nettingPositionsUptoRow : OpenClaim := { program := "ytbhgpeghddnidaagreat", sum := "0d4e17943d9a6211a1d48dc66732abd3b0d33881270f73063e4c8cd2bcdf7802", func := "supercargo/supercargolaw41.NettingPositions", spec := "nettingPositions", unfollowed := true, recurses := true, plainKeys := false, apart := false, narrowed := true }
def NettingPositionsUptoSaid : Prop := nettingPositionsUptoRow.holds Tryz.pinned (OpenSpec.upto nettingPositionsSpec)

/-- 'supercargolaw41.NettingPairs', WHERE WHAT IT READS IS OF BULK AT MOST 1048576: true; the input reads as it did. -/
def nettingPairsUptoRow : OpenClaim := { program := "ytbhgpeghddnidaagreat", sum := "0d4e17943d9a6211a1d48dc66732abd3b0d33881270f73063e4c8cd2bcdf7802", func := "supercargo/supercargolaw41.NettingPairs", spec := "nettingPairs", unfollowed := true, recurses := true, plainKeys := false, apart := false, narrowed := true }
def NettingPairsUptoSaid : Prop := nettingPairsUptoRow.holds Tryz.pinned (OpenSpec.upto nettingPairsSpec)

/-- 'supercargolaw41.NettingNets', WHERE WHAT IT READS IS OF BULK AT MOST 1048576: true; the input reads as it did. -/
def nettingNetsUptoRow : OpenClaim := { program := "ytbhgpeghddnidaagreat", sum := "0d4e17943d9a6211a1d48dc66732abd3b0d33881270f73063e4c8cd2bcdf7802", func := "supercargo/supercargolaw41.NettingNets", spec := "nettingNets", unfollowed := true, recurses := true, plainKeys := false, apart := false, narrowed := true }
def NettingNetsUptoSaid : Prop := nettingNetsUptoRow.holds Tryz.pinned (OpenSpec.upto nettingNetsSpec)

/-- 'supercargolaw41.NettingRings', WHERE WHAT IT READS IS OF BULK AT MOST 1048576: true; the input reads as it did. -/
def nettingRingsUptoRow : OpenClaim := { program := "ytbhgpeghddnidaagreat", sum := "0d4e17943d9a6211a1d48dc66732abd3b0d33881270f73063e4c8cd2bcdf7802", func := "supercargo/supercargolaw41.NettingRings", spec := "nettingRings", unfollowed := true, recurses := true, plainKeys := false, apart := false, narrowed := true }
def NettingRingsUptoSaid : Prop := nettingRingsUptoRow.holds Tryz.pinned (OpenSpec.upto nettingRingsSpec)

end Rows
end Go.Proofs.YtbhgpeghddnidaaGreat
