/-
  No cell of these rows narrows 'for every input' (looked for: loops, veiled, ifaces, maps, wideKeys, modest, calm, conditions, laid).
  DERIVED. THE GIVEN ROWS OF THIS SEAT. 3 by the template 'for every input the law returns true; each argument reads behind the call as it read before'; 0 by the template 'total and deterministic' (their statements: YtofdnkgieigncaaGreatTotals.lean).
  GIVEN WITH THE SEED: the statements are not yours to turn. If you find one false, say at which input.
  Laid BY PROGRAM, IN A SANDBOX (cutbox-rows.mjs): the forced cells as the released guide's own fill.sh prints them over the translation ace29c7080a8982f… (all of the seat's roots in one cut). By AI agents, Wed Nov 11 2026. No macro, syntax, notation, axiom, sorry.
-/
import Derived.Test.YtofdnkgieigncaaGreatChecked
import GoSem.Claim
import GoSem.ClaimJoined
import GoSem.ClaimMapViews
import Derived.JoinedTies
import Derived.KernelRfl
namespace Go.Proofs.YtofdnkgieigncaaGreat
/- THE CELL 'sum', in the pinned program and in every row, IS THE sha256 OF THE DUMP (.gsa) THAT YtofdnkgieigncaaGreatProg.lean LOADS. Nothing in Lean hashes anything: it is a label: what it is worth is what the hold of that sum in a sandbox is worth. -/
noncomputable def Tryz.pinned : Pinned := { name := "ytofdnkgieigncaagreat", sum := "ace29c7080a8982f7b225a9bbf5a9f4fe325e1daa9bcc2c82566cf6db9a5bdb4", checked := Tryz.checked }
namespace Rows
def none {H : Type} : Left H := { results := [], args := [] }

/-- 'supercargotop.TopMail': WHATEVER THE INPUT: true; the input reads as it did. -/
def topMailSpec : ChangeSpec := { name := "topMail", fn := fun _ => fun
  | [d1, d2] => { results := [.lit (.bool true)], args := [d1, d2] }
  | _ => none }
def topMailRow : OpenClaim := { program := "ytofdnkgieigncaagreat", sum := "ace29c7080a8982f7b225a9bbf5a9f4fe325e1daa9bcc2c82566cf6db9a5bdb4", func := "supercargo/supercargotop.TopMail", spec := "topMail", inPlace := ["math/bits.Add64"], unfollowed := true, recurses := true, plainKeys := false, apart := false }
def TopMailSaid : Prop := topMailRow.holds Tryz.pinned (OpenSpec.ofChange topMailSpec)

/-- ITS FALSE NEIGHBOUR: 'it returns false'. Refute it at one input. -/
def topMailWrong : ChangeSpec := { name := "topMail", fn := fun _ => fun
  | [d1, d2] => { results := [.lit (.bool false)], args := [d1, d2] }
  | _ => none }
def TopMailWrongFalsely : Prop := topMailRow.holds Tryz.pinned (OpenSpec.ofChange topMailWrong)

/-- 'supercargotop.TopNetting': WHATEVER THE INPUT: true; the input reads as it did. -/
def topNettingSpec : ChangeSpec := { name := "topNetting", fn := fun _ => fun
  | [d1, d2] => { results := [.lit (.bool true)], args := [d1, d2] }
  | _ => none }
def topNettingRow : OpenClaim := { program := "ytofdnkgieigncaagreat", sum := "ace29c7080a8982f7b225a9bbf5a9f4fe325e1daa9bcc2c82566cf6db9a5bdb4", func := "supercargo/supercargotop.TopNetting", spec := "topNetting", unfollowed := true, recurses := true, plainKeys := false, apart := false }
def TopNettingSaid : Prop := topNettingRow.holds Tryz.pinned (OpenSpec.ofChange topNettingSpec)

/-- ITS FALSE NEIGHBOUR: 'it returns false'. Refute it at one input. -/
def topNettingWrong : ChangeSpec := { name := "topNetting", fn := fun _ => fun
  | [d1, d2] => { results := [.lit (.bool false)], args := [d1, d2] }
  | _ => none }
def TopNettingWrongFalsely : Prop := topNettingRow.holds Tryz.pinned (OpenSpec.ofChange topNettingWrong)

/-- 'supercargotop.TopMature': WHATEVER THE INPUT: true; the input reads as it did. -/
def topMatureSpec : ChangeSpec := { name := "topMature", fn := fun _ => fun
  | [d1, d2, d3, d4, d5, d6, d7] => { results := [.lit (.bool true)], args := [d1, d2, d3, d4, d5, d6, d7] }
  | _ => none }
def topMatureRow : OpenClaim := { program := "ytofdnkgieigncaagreat", sum := "ace29c7080a8982f7b225a9bbf5a9f4fe325e1daa9bcc2c82566cf6db9a5bdb4", func := "supercargo/supercargotop.TopMature", spec := "topMature", inPlace := ["maps.clone"], unfollowed := true, recurses := true, plainKeys := false, apart := false }
def TopMatureSaid : Prop := topMatureRow.holds Tryz.pinned (OpenSpec.ofChange topMatureSpec)

/-- ITS FALSE NEIGHBOUR: 'it returns false'. Refute it at one input. -/
def topMatureWrong : ChangeSpec := { name := "topMature", fn := fun _ => fun
  | [d1, d2, d3, d4, d5, d6, d7] => { results := [.lit (.bool false)], args := [d1, d2, d3, d4, d5, d6, d7] }
  | _ => none }
def TopMatureWrongFalsely : Prop := topMatureRow.holds Tryz.pinned (OpenSpec.ofChange topMatureWrong)

/- THE SECOND FORM. 'bulk': how many values and letters a reading holds, each counted each time it is reached (what is shared counts as often as it is met; a slice's spare places count too). A statement '..UptoSaid' is the law's where the arguments, and the package variables that the reading takes, are together of bulk at most 1048576: NARROWER than '..Said'. Prove '..Said' where nothing that the law and all that it calls make is longer than what came in: it says more and counts as full. Else prove '..UptoSaid'. A law counts once. -/
mutual
def uptoBulk {H : Type} : DataW H → Nat
  | .lit (.string bytes) => bytes.length + 1
  | .lit _ => 1
  | .nil => 1
  | .ptr d => uptoBulk d + 1
  | .slice elems spare => uptoBulkAll elems + uptoBulkAll spare + 1
  | .agg parts => uptoBulkAll parts + 1
  | .iface _ d => uptoBulk d + 1
  | .map entries => uptoBulkEntries entries + 1
  | .held _ => 1
def uptoBulkAll {H : Type} : List (DataW H) → Nat
  | [] => 0
  | d :: r => uptoBulk d + uptoBulkAll r
def uptoBulkEntries {H : Type} : List (Lit × DataW H) → Nat
  | [] => 0
  | x :: r => uptoBulkEntry x + uptoBulkEntries r
def uptoBulkEntry {H : Type} : Lit × DataW H → Nat
  | (.string bytes, d) => bytes.length + uptoBulk d + 1
  | (_, d) => uptoBulk d + 1
 end
def uptoSmall : (H : Type) → List (DataW H) → Bool := fun _ ds => decide (uptoBulkAll ds ≤ 1048576)
def OpenSpec.upto (s : _root_.Go.ChangeSpec) : _root_.Go.OpenSpec := { _root_.Go.OpenSpec.ofChange s with cond := some uptoSmall }

/-- 'supercargotop.TopMail', WHERE WHAT IT READS IS OF BULK AT MOST 1048576: true; the input reads as it did. -/
def topMailUptoRow : OpenClaim := { program := "ytofdnkgieigncaagreat", sum := "ace29c7080a8982f7b225a9bbf5a9f4fe325e1daa9bcc2c82566cf6db9a5bdb4", func := "supercargo/supercargotop.TopMail", spec := "topMail", inPlace := ["math/bits.Add64"], unfollowed := true, recurses := true, plainKeys := false, apart := false, narrowed := true }
def TopMailUptoSaid : Prop := topMailUptoRow.holds Tryz.pinned (OpenSpec.upto topMailSpec)

/-- 'supercargotop.TopNetting', WHERE WHAT IT READS IS OF BULK AT MOST 1048576: true; the input reads as it did. -/
def topNettingUptoRow : OpenClaim := { program := "ytofdnkgieigncaagreat", sum := "ace29c7080a8982f7b225a9bbf5a9f4fe325e1daa9bcc2c82566cf6db9a5bdb4", func := "supercargo/supercargotop.TopNetting", spec := "topNetting", unfollowed := true, recurses := true, plainKeys := false, apart := false, narrowed := true }
def TopNettingUptoSaid : Prop := topNettingUptoRow.holds Tryz.pinned (OpenSpec.upto topNettingSpec)

/-- 'supercargotop.TopMature', WHERE WHAT IT READS IS OF BULK AT MOST 1048576: true; the input reads as it did. -/
def topMatureUptoRow : OpenClaim := { program := "ytofdnkgieigncaagreat", sum := "ace29c7080a8982f7b225a9bbf5a9f4fe325e1daa9bcc2c82566cf6db9a5bdb4", func := "supercargo/supercargotop.TopMature", spec := "topMature", inPlace := ["maps.clone"], unfollowed := true, recurses := true, plainKeys := false, apart := false, narrowed := true }
def TopMatureUptoSaid : Prop := topMatureUptoRow.holds Tryz.pinned (OpenSpec.upto topMatureSpec)

end Rows
end Go.Proofs.YtofdnkgieigncaaGreat
