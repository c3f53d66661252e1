/-
  No cell of these rows narrows 'for every input' (looked for: loops, veiled, ifaces, maps, wideKeys, modest, calm, conditions, laid).
  DERIVED. THE GIVEN ROWS OF THIS SEAT. 4 by the template 'for every input the law returns true; each argument reads behind the call as it read before'; 0 by the template 'total and deterministic' (their statements: YtaejikoicbbeeaaTotals.lean).
  GIVEN WITH THE SEED: the statements are not yours to turn. If you find one false, say at which input.
  Laid BY PROGRAM, IN A SANDBOX (cutbox-rows.mjs): the forced cells as the released guide's own fill.sh prints them over the translation 2c769d5a375e84ff… (all of the seat's roots in one cut). By AI agents, Wed Nov 11 2026. No macro, syntax, notation, axiom, sorry.
-/
import Derived.Test.YtaejikoicbbeeaaChecked
import GoSem.Claim
import GoSem.ClaimJoined
import GoSem.ClaimMapViews
import Derived.JoinedTies
import Derived.KernelRfl
namespace Go.Proofs.Ytaejikoicbbeeaa
/- THE CELL 'sum', in the pinned program and in every row, IS THE sha256 OF THE DUMP (.gsa) THAT YtaejikoicbbeeaaProg.lean LOADS. Nothing in Lean hashes anything: it is a label: what it is worth is what the hold of that sum in a sandbox is worth. -/
noncomputable def Try.pinned : Pinned := { name := "ytaejikoicbbeeaa", sum := "2c769d5a375e84ffe325311eebe5ae764c86a1c89911f3bc57e81085ba9d35f8", checked := Try.checked }
namespace Rows
def none {H : Type} : Left H := { results := [], args := [] }

/-- 'supercargolaw41.NettingKeeps': WHATEVER THE INPUT: true; the input reads as it did. -/
def nettingKeepsSpec : ChangeSpec := { name := "nettingKeeps", fn := fun _ => fun
  | [d] => { results := [.lit (.bool true)], args := [d] }
  | _ => none }
def nettingKeepsRow : OpenClaim := { program := "ytaejikoicbbeeaa", sum := "2c769d5a375e84ffe325311eebe5ae764c86a1c89911f3bc57e81085ba9d35f8", func := "supercargo/supercargolaw41.NettingKeeps", spec := "nettingKeeps", unfollowed := true, recurses := true, plainKeys := false, apart := false }
def NettingKeepsSaid : Prop := nettingKeepsRow.holds Try.pinned (OpenSpec.ofChange nettingKeepsSpec)

/-- ITS FALSE NEIGHBOUR: 'it returns false'. Refute it at one input. -/
def nettingKeepsWrong : ChangeSpec := { name := "nettingKeeps", fn := fun _ => fun
  | [d] => { results := [.lit (.bool false)], args := [d] }
  | _ => none }
def NettingKeepsWrongFalsely : Prop := nettingKeepsRow.holds Try.pinned (OpenSpec.ofChange nettingKeepsWrong)

/-- 'supercargolaw41.NettingLeast': WHATEVER THE INPUT: true; the input reads as it did. -/
def nettingLeastSpec : ChangeSpec := { name := "nettingLeast", fn := fun _ => fun
  | [d] => { results := [.lit (.bool true)], args := [d] }
  | _ => none }
def nettingLeastRow : OpenClaim := { program := "ytaejikoicbbeeaa", sum := "2c769d5a375e84ffe325311eebe5ae764c86a1c89911f3bc57e81085ba9d35f8", func := "supercargo/supercargolaw41.NettingLeast", spec := "nettingLeast", unfollowed := true, recurses := true, plainKeys := false, apart := false }
def NettingLeastSaid : Prop := nettingLeastRow.holds Try.pinned (OpenSpec.ofChange nettingLeastSpec)

/-- ITS FALSE NEIGHBOUR: 'it returns false'. Refute it at one input. -/
def nettingLeastWrong : ChangeSpec := { name := "nettingLeast", fn := fun _ => fun
  | [d] => { results := [.lit (.bool false)], args := [d] }
  | _ => none }
def NettingLeastWrongFalsely : Prop := nettingLeastRow.holds Try.pinned (OpenSpec.ofChange nettingLeastWrong)

/-- 'supercargolaw41.NettingOrder': WHATEVER THE INPUT: true; the input reads as it did. -/
def nettingOrderSpec : ChangeSpec := { name := "nettingOrder", fn := fun _ => fun
  | [d1, d2, d3, d4] => { results := [.lit (.bool true)], args := [d1, d2, d3, d4] }
  | _ => none }
def nettingOrderRow : OpenClaim := { program := "ytaejikoicbbeeaa", sum := "2c769d5a375e84ffe325311eebe5ae764c86a1c89911f3bc57e81085ba9d35f8", func := "supercargo/supercargolaw41.NettingOrder", spec := "nettingOrder", unfollowed := true, recurses := true, plainKeys := false, apart := false }
def NettingOrderSaid : Prop := nettingOrderRow.holds Try.pinned (OpenSpec.ofChange nettingOrderSpec)

/-- ITS FALSE NEIGHBOUR: 'it returns false'. Refute it at one input. -/
def nettingOrderWrong : ChangeSpec := { name := "nettingOrder", fn := fun _ => fun
  | [d1, d2, d3, d4] => { results := [.lit (.bool false)], args := [d1, d2, d3, d4] }
  | _ => none }
def NettingOrderWrongFalsely : Prop := nettingOrderRow.holds Try.pinned (OpenSpec.ofChange nettingOrderWrong)

/-- 'supercargolaw41.NettingApart': WHATEVER THE INPUT: true; the input reads as it did. -/
def nettingApartSpec : ChangeSpec := { name := "nettingApart", fn := fun _ => fun
  | [d1, d2] => { results := [.lit (.bool true)], args := [d1, d2] }
  | _ => none }
def nettingApartRow : OpenClaim := { program := "ytaejikoicbbeeaa", sum := "2c769d5a375e84ffe325311eebe5ae764c86a1c89911f3bc57e81085ba9d35f8", func := "supercargo/supercargolaw41.NettingApart", spec := "nettingApart", unfollowed := true, recurses := true, plainKeys := false, apart := false }
def NettingApartSaid : Prop := nettingApartRow.holds Try.pinned (OpenSpec.ofChange nettingApartSpec)

/-- ITS FALSE NEIGHBOUR: 'it returns false'. Refute it at one input. -/
def nettingApartWrong : ChangeSpec := { name := "nettingApart", fn := fun _ => fun
  | [d1, d2] => { results := [.lit (.bool false)], args := [d1, d2] }
  | _ => none }
def NettingApartWrongFalsely : Prop := nettingApartRow.holds Try.pinned (OpenSpec.ofChange nettingApartWrong)

/- THE SECOND FORM. 'bulk': how many values and letters a reading holds, each counted each time it is reached (what is shared counts as often as it is met; a slice's spare places count too). A statement '..UptoSaid' is the law's where the arguments, and the package variables that the reading takes, are together of bulk at most 1048576: NARROWER than '..Said'. Prove '..Said' where nothing that the law and all that it calls make is longer than what came in: it says more and counts as full. Else prove '..UptoSaid'. A law counts once. -/
mutual
def uptoBulk {H : Type} : DataW H → Nat
  | .lit (.string bytes) => bytes.length + 1
  | .lit _ => 1
  | .nil => 1
  | .ptr d => uptoBulk d + 1
  | .slice elems spare => uptoBulkAll elems + uptoBulkAll spare + 1
  | .agg parts => uptoBulkAll parts + 1
  | .iface _ d => uptoBulk d + 1
  | .map entries => uptoBulkEntries entries + 1
  | .held _ => 1
def uptoBulkAll {H : Type} : List (DataW H) → Nat
  | [] => 0
  | d :: r => uptoBulk d + uptoBulkAll r
def uptoBulkEntries {H : Type} : List (Lit × DataW H) → Nat
  | [] => 0
  | x :: r => uptoBulkEntry x + uptoBulkEntries r
def uptoBulkEntry {H : Type} : Lit × DataW H → Nat
  | (.string bytes, d) => bytes.length + uptoBulk d + 1
  | (_, d) => uptoBulk d + 1
 end
def uptoSmall : (H : Type) → List (DataW H) → Bool := fun _ ds => decide (uptoBulkAll ds ≤ 1048576)
def OpenSpec.upto (s : _root_.Go.ChangeSpec) : _root_.Go.OpenSpec := { _root_.Go.OpenSpec.ofChange s with cond := some uptoSmall }

/-- 'supercargolaw41.NettingKeeps', WHERE WHAT IT READS IS OF BULK AT MOST 1048576: true; the input reads as it did. -/
def nettingKeepsUptoRow : OpenClaim := { program := "ytaejikoicbbeeaa", sum := "2c769d5a375e84ffe325311eebe5ae764c86a1c89911f3bc57e81085ba9d35f8", func := "supercargo/supercargolaw41.NettingKeeps", spec := "nettingKeeps", unfollowed := true, recurses := true, plainKeys := false, apart := false, narrowed := true }
def NettingKeepsUptoSaid : Prop := nettingKeepsUptoRow.holds Try.pinned (OpenSpec.upto nettingKeepsSpec)

/-- 'supercargolaw41.NettingLeast', WHERE WHAT IT READS IS OF BULK AT MOST 1048576: true; the input reads as it did. -/
def nettingLeastUptoRow : OpenClaim := { program := "ytaejikoicbbeeaa", sum := "2c769d5a375e84ffe325311eebe5ae764c86a1c89911f3bc57e81085ba9d35f8", func := "supercargo/supercargolaw41.NettingLeast", spec := "nettingLeast", unfollowed := true, recurses := true, plainKeys := false, apart := false, narrowed := true }
def NettingLeastUptoSaid : Prop := nettingLeastUptoRow.holds Try.pinned (OpenSpec.upto nettingLeastSpec)

/-- 'supercargolaw41.NettingOrder', WHERE WHAT IT READS IS OF BULK AT MOST 1048576: true; the input reads as it did. -/
def nettingOrderUptoRow : OpenClaim := { program := "ytaejikoicbbeeaa", sum := "2c769d5a375e84ffe325311eebe5ae764c86a1c89911f3bc57e81085ba9d35f8", func := "supercargo/supercargolaw41.NettingOrder", spec := "nettingOrder", unfollowed := true, recurses := true, plainKeys := false, apart := false, narrowed := true }
def NettingOrderUptoSaid : Prop := nettingOrderUptoRow.holds Try.pinned (OpenSpec.upto nettingOrderSpec)

/-- 'supercargolaw41.NettingApart', WHERE WHAT IT READS IS OF BULK AT MOST 1048576: true; the input reads as it did. -/
def nettingApartUptoRow : OpenClaim := { program := "ytaejikoicbbeeaa", sum := "2c769d5a375e84ffe325311eebe5ae764c86a1c89911f3bc57e81085ba9d35f8", func := "supercargo/supercargolaw41.NettingApart", spec := "nettingApart", unfollowed := true, recurses := true, plainKeys := false, apart := false, narrowed := true }
def NettingApartUptoSaid : Prop := nettingApartUptoRow.holds Try.pinned (OpenSpec.upto nettingApartSpec)

end Rows
end Go.Proofs.Ytaejikoicbbeeaa
