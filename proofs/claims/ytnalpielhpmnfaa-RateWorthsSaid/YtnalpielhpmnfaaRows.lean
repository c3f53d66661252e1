/-
  No cell of these rows narrows 'for every input' (looked for: loops, veiled, ifaces, maps, wideKeys, modest, calm, conditions, laid).
  DERIVED. THE GIVEN ROWS OF THIS SEAT. 7 by the template 'for every input the law returns true; each argument reads behind the call as it read before'; 0 by the template 'total and deterministic' (their statements: YtnalpielhpmnfaaTotals.lean).
  GIVEN WITH THE SEED: the statements are not yours to turn. If you find one false, say at which input.
  Laid BY PROGRAM, IN A SANDBOX (cutbox-rows.mjs): the forced cells as the released guide's own fill.sh prints them over the translation 7e804991dcd0f2c6… (all of the seat's roots in one cut). By AI agents, Wed Nov 11 2026. No macro, syntax, notation, axiom, sorry.
-/
import Derived.Test.YtnalpielhpmnfaaChecked
import GoSem.Claim
import GoSem.ClaimJoined
import GoSem.ClaimMapViews
import Derived.JoinedTies
import Derived.KernelRfl
namespace Go.Proofs.Ytnalpielhpmnfaa
/- THE CELL 'sum', in the pinned program and in every row, IS THE sha256 OF THE DUMP (.gsa) THAT YtnalpielhpmnfaaProg.lean LOADS. Nothing in Lean hashes anything: it is a label: what it is worth is what the hold of that sum in a sandbox is worth. -/
noncomputable def Try.pinned : Pinned := { name := "ytnalpielhpmnfaa", sum := "7e804991dcd0f2c68ded9099e9d0f2964be7de0b31eff22440c0cad6f573c7fd", checked := Try.checked }
namespace Rows
def none {H : Type} : Left H := { results := [], args := [] }

/-- 'supercargolaw37.RateGets': WHATEVER THE INPUT: true; the input reads as it did. -/
def rateGetsSpec : ChangeSpec := { name := "rateGets", fn := fun _ => fun
  | [d1, d2, d3, d4] => { results := [.lit (.bool true)], args := [d1, d2, d3, d4] }
  | _ => none }
def rateGetsRow : OpenClaim := { program := "ytnalpielhpmnfaa", sum := "7e804991dcd0f2c68ded9099e9d0f2964be7de0b31eff22440c0cad6f573c7fd", func := "supercargo/supercargolaw37.RateGets", spec := "rateGets", unfollowed := true, recurses := true, named := ["math/bits.divideError", "math/bits.overflowError"], plainKeys := false, apart := false }
def RateGetsSaid : Prop := rateGetsRow.holds Try.pinned (OpenSpec.ofChange rateGetsSpec)

/-- ITS FALSE NEIGHBOUR: 'it returns false'. Refute it at one input. -/
def rateGetsWrong : ChangeSpec := { name := "rateGets", fn := fun _ => fun
  | [d1, d2, d3, d4] => { results := [.lit (.bool false)], args := [d1, d2, d3, d4] }
  | _ => none }
def RateGetsWrongFalsely : Prop := rateGetsRow.holds Try.pinned (OpenSpec.ofChange rateGetsWrong)

/-- 'supercargolaw37.RateCrosses': WHATEVER THE INPUT: true; the input reads as it did. -/
def rateCrossesSpec : ChangeSpec := { name := "rateCrosses", fn := fun _ => fun
  | [d1, d2, d3, d4] => { results := [.lit (.bool true)], args := [d1, d2, d3, d4] }
  | _ => none }
def rateCrossesRow : OpenClaim := { program := "ytnalpielhpmnfaa", sum := "7e804991dcd0f2c68ded9099e9d0f2964be7de0b31eff22440c0cad6f573c7fd", func := "supercargo/supercargolaw37.RateCrosses", spec := "rateCrosses", unfollowed := true, recurses := true, named := ["math/bits.divideError", "math/bits.overflowError"], plainKeys := false, apart := false }
def RateCrossesSaid : Prop := rateCrossesRow.holds Try.pinned (OpenSpec.ofChange rateCrossesSpec)

/-- ITS FALSE NEIGHBOUR: 'it returns false'. Refute it at one input. -/
def rateCrossesWrong : ChangeSpec := { name := "rateCrosses", fn := fun _ => fun
  | [d1, d2, d3, d4] => { results := [.lit (.bool false)], args := [d1, d2, d3, d4] }
  | _ => none }
def RateCrossesWrongFalsely : Prop := rateCrossesRow.holds Try.pinned (OpenSpec.ofChange rateCrossesWrong)

/-- 'supercargolaw37.RateConverts': WHATEVER THE INPUT: true; the input reads as it did. -/
def rateConvertsSpec : ChangeSpec := { name := "rateConverts", fn := fun _ => fun
  | [d1, d2, d3, d4] => { results := [.lit (.bool true)], args := [d1, d2, d3, d4] }
  | _ => none }
def rateConvertsRow : OpenClaim := { program := "ytnalpielhpmnfaa", sum := "7e804991dcd0f2c68ded9099e9d0f2964be7de0b31eff22440c0cad6f573c7fd", func := "supercargo/supercargolaw37.RateConverts", spec := "rateConverts", unfollowed := true, recurses := true, named := ["math/bits.divideError", "math/bits.overflowError"], plainKeys := false, apart := false }
def RateConvertsSaid : Prop := rateConvertsRow.holds Try.pinned (OpenSpec.ofChange rateConvertsSpec)

/-- ITS FALSE NEIGHBOUR: 'it returns false'. Refute it at one input. -/
def rateConvertsWrong : ChangeSpec := { name := "rateConverts", fn := fun _ => fun
  | [d1, d2, d3, d4] => { results := [.lit (.bool false)], args := [d1, d2, d3, d4] }
  | _ => none }
def RateConvertsWrongFalsely : Prop := rateConvertsRow.holds Try.pinned (OpenSpec.ofChange rateConvertsWrong)

/-- 'supercargolaw37.RateExact': WHATEVER THE INPUT: true; the input reads as it did. -/
def rateExactSpec : ChangeSpec := { name := "rateExact", fn := fun _ => fun
  | [d1, d2, d3, d4, d5] => { results := [.lit (.bool true)], args := [d1, d2, d3, d4, d5] }
  | _ => none }
def rateExactRow : OpenClaim := { program := "ytnalpielhpmnfaa", sum := "7e804991dcd0f2c68ded9099e9d0f2964be7de0b31eff22440c0cad6f573c7fd", func := "supercargo/supercargolaw37.RateExact", spec := "rateExact", unfollowed := true, recurses := true, named := ["math/bits.divideError", "math/bits.overflowError"], plainKeys := false, apart := false }
def RateExactSaid : Prop := rateExactRow.holds Try.pinned (OpenSpec.ofChange rateExactSpec)

/-- ITS FALSE NEIGHBOUR: 'it returns false'. Refute it at one input. -/
def rateExactWrong : ChangeSpec := { name := "rateExact", fn := fun _ => fun
  | [d1, d2, d3, d4, d5] => { results := [.lit (.bool false)], args := [d1, d2, d3, d4, d5] }
  | _ => none }
def RateExactWrongFalsely : Prop := rateExactRow.holds Try.pinned (OpenSpec.ofChange rateExactWrong)

/-- 'supercargolaw37.RateBack': WHATEVER THE INPUT: true; the input reads as it did. -/
def rateBackSpec : ChangeSpec := { name := "rateBack", fn := fun _ => fun
  | [d1, d2, d3, d4] => { results := [.lit (.bool true)], args := [d1, d2, d3, d4] }
  | _ => none }
def rateBackRow : OpenClaim := { program := "ytnalpielhpmnfaa", sum := "7e804991dcd0f2c68ded9099e9d0f2964be7de0b31eff22440c0cad6f573c7fd", func := "supercargo/supercargolaw37.RateBack", spec := "rateBack", unfollowed := true, recurses := true, named := ["math/bits.divideError", "math/bits.overflowError"], plainKeys := false, apart := false }
def RateBackSaid : Prop := rateBackRow.holds Try.pinned (OpenSpec.ofChange rateBackSpec)

/-- ITS FALSE NEIGHBOUR: 'it returns false'. Refute it at one input. -/
def rateBackWrong : ChangeSpec := { name := "rateBack", fn := fun _ => fun
  | [d1, d2, d3, d4] => { results := [.lit (.bool false)], args := [d1, d2, d3, d4] }
  | _ => none }
def RateBackWrongFalsely : Prop := rateBackRow.holds Try.pinned (OpenSpec.ofChange rateBackWrong)

/-- 'supercargolaw37.RateCopies': WHATEVER THE INPUT: true; the input reads as it did. -/
def rateCopiesSpec : ChangeSpec := { name := "rateCopies", fn := fun _ => fun
  | [d1, d2, d3] => { results := [.lit (.bool true)], args := [d1, d2, d3] }
  | _ => none }
def rateCopiesRow : OpenClaim := { program := "ytnalpielhpmnfaa", sum := "7e804991dcd0f2c68ded9099e9d0f2964be7de0b31eff22440c0cad6f573c7fd", func := "supercargo/supercargolaw37.RateCopies", spec := "rateCopies", unfollowed := true, recurses := true, named := ["math/bits.divideError", "math/bits.overflowError"], plainKeys := false, apart := false }
def RateCopiesSaid : Prop := rateCopiesRow.holds Try.pinned (OpenSpec.ofChange rateCopiesSpec)

/-- ITS FALSE NEIGHBOUR: 'it returns false'. Refute it at one input. -/
def rateCopiesWrong : ChangeSpec := { name := "rateCopies", fn := fun _ => fun
  | [d1, d2, d3] => { results := [.lit (.bool false)], args := [d1, d2, d3] }
  | _ => none }
def RateCopiesWrongFalsely : Prop := rateCopiesRow.holds Try.pinned (OpenSpec.ofChange rateCopiesWrong)

/-- 'supercargolaw37.RateWorths': WHATEVER THE INPUT: true; the input reads as it did. -/
def rateWorthsSpec : ChangeSpec := { name := "rateWorths", fn := fun _ => fun
  | [d1, d2, d3, d4] => { results := [.lit (.bool true)], args := [d1, d2, d3, d4] }
  | _ => none }
def rateWorthsRow : OpenClaim := { program := "ytnalpielhpmnfaa", sum := "7e804991dcd0f2c68ded9099e9d0f2964be7de0b31eff22440c0cad6f573c7fd", func := "supercargo/supercargolaw37.RateWorths", spec := "rateWorths", unfollowed := true, recurses := true, named := ["math/bits.divideError", "math/bits.overflowError"], plainKeys := false, apart := false }
def RateWorthsSaid : Prop := rateWorthsRow.holds Try.pinned (OpenSpec.ofChange rateWorthsSpec)

/-- ITS FALSE NEIGHBOUR: 'it returns false'. Refute it at one input. -/
def rateWorthsWrong : ChangeSpec := { name := "rateWorths", fn := fun _ => fun
  | [d1, d2, d3, d4] => { results := [.lit (.bool false)], args := [d1, d2, d3, d4] }
  | _ => none }
def RateWorthsWrongFalsely : Prop := rateWorthsRow.holds Try.pinned (OpenSpec.ofChange rateWorthsWrong)

/- THE SECOND FORM. 'bulk': how many values and letters a reading holds, each counted each time it is reached (what is shared counts as often as it is met; a slice's spare places count too). A statement '..UptoSaid' is the law's where the arguments, and the package variables that the reading takes, are together of bulk at most 1048576: NARROWER than '..Said'. Prove '..Said' where nothing that the law and all that it calls make is longer than what came in: it says more and counts as full. Else prove '..UptoSaid'. A law counts once. -/
mutual
def uptoBulk {H : Type} : DataW H → Nat
  | .lit (.string bytes) => bytes.length + 1
  | .lit _ => 1
  | .nil => 1
  | .ptr d => uptoBulk d + 1
  | .slice elems spare => uptoBulkAll elems + uptoBulkAll spare + 1
  | .agg parts => uptoBulkAll parts + 1
  | .iface _ d => uptoBulk d + 1
  | .map entries => uptoBulkEntries entries + 1
  | .held _ => 1
def uptoBulkAll {H : Type} : List (DataW H) → Nat
  | [] => 0
  | d :: r => uptoBulk d + uptoBulkAll r
def uptoBulkEntries {H : Type} : List (Lit × DataW H) → Nat
  | [] => 0
  | x :: r => uptoBulkEntry x + uptoBulkEntries r
def uptoBulkEntry {H : Type} : Lit × DataW H → Nat
  | (.string bytes, d) => bytes.length + uptoBulk d + 1
  | (_, d) => uptoBulk d + 1
 end
def uptoSmall : (H : Type) → List (DataW H) → Bool := fun _ ds => decide (uptoBulkAll ds ≤ 1048576)
def OpenSpec.upto (s : _root_.Go.ChangeSpec) : _root_.Go.OpenSpec := { _root_.Go.OpenSpec.ofChange s with cond := some uptoSmall }

/-- 'supercargolaw37.RateGets', WHERE WHAT IT READS IS OF BULK AT MOST 1048576: true; the input reads as it did. -/
def rateGetsUptoRow : OpenClaim := { program := "ytnalpielhpmnfaa", sum := "7e804991dcd0f2c68ded9099e9d0f2964be7de0b31eff22440c0cad6f573c7fd", func := "supercargo/supercargolaw37.RateGets", spec := "rateGets", unfollowed := true, recurses := true, named := ["math/bits.divideError", "math/bits.overflowError"], plainKeys := false, apart := false, narrowed := true }
def RateGetsUptoSaid : Prop := rateGetsUptoRow.holds Try.pinned (OpenSpec.upto rateGetsSpec)

/-- 'supercargolaw37.RateCrosses', WHERE WHAT IT READS IS OF BULK AT MOST 1048576: true; the input reads as it did. -/
def rateCrossesUptoRow : OpenClaim := { program := "ytnalpielhpmnfaa", sum := "7e804991dcd0f2c68ded9099e9d0f2964be7de0b31eff22440c0cad6f573c7fd", func := "supercargo/supercargolaw37.RateCrosses", spec := "rateCrosses", unfollowed := true, recurses := true, named := ["math/bits.divideError", "math/bits.overflowError"], plainKeys := false, apart := false, narrowed := true }
def RateCrossesUptoSaid : Prop := rateCrossesUptoRow.holds Try.pinned (OpenSpec.upto rateCrossesSpec)

/-- 'supercargolaw37.RateConverts', WHERE WHAT IT READS IS OF BULK AT MOST 1048576: true; the input reads as it did. -/
def rateConvertsUptoRow : OpenClaim := { program := "ytnalpielhpmnfaa", sum := "7e804991dcd0f2c68ded9099e9d0f2964be7de0b31eff22440c0cad6f573c7fd", func := "supercargo/supercargolaw37.RateConverts", spec := "rateConverts", unfollowed := true, recurses := true, named := ["math/bits.divideError", "math/bits.overflowError"], plainKeys := false, apart := false, narrowed := true }
def RateConvertsUptoSaid : Prop := rateConvertsUptoRow.holds Try.pinned (OpenSpec.upto rateConvertsSpec)

/-- 'supercargolaw37.RateExact', WHERE WHAT IT READS IS OF BULK AT MOST 1048576: true; the input reads as it did. -/
def rateExactUptoRow : OpenClaim := { program := "ytnalpielhpmnfaa", sum := "7e804991dcd0f2c68ded9099e9d0f2964be7de0b31eff22440c0cad6f573c7fd", func := "supercargo/supercargolaw37.RateExact", spec := "rateExact", unfollowed := true, recurses := true, named := ["math/bits.divideError", "math/bits.overflowError"], plainKeys := false, apart := false, narrowed := true }
def RateExactUptoSaid : Prop := rateExactUptoRow.holds Try.pinned (OpenSpec.upto rateExactSpec)

/-- 'supercargolaw37.RateBack', WHERE WHAT IT READS IS OF BULK AT MOST 1048576: true; the input reads as it did. -/
def rateBackUptoRow : OpenClaim := { program := "ytnalpielhpmnfaa", sum := "7e804991dcd0f2c68ded9099e9d0f2964be7de0b31eff22440c0cad6f573c7fd", func := "supercargo/supercargolaw37.RateBack", spec := "rateBack", unfollowed := true, recurses := true, named := ["math/bits.divideError", "math/bits.overflowError"], plainKeys := false, apart := false, narrowed := true }
def RateBackUptoSaid : Prop := rateBackUptoRow.holds Try.pinned (OpenSpec.upto rateBackSpec)

/-- 'supercargolaw37.RateCopies', WHERE WHAT IT READS IS OF BULK AT MOST 1048576: true; the input reads as it did. -/
def rateCopiesUptoRow : OpenClaim := { program := "ytnalpielhpmnfaa", sum := "7e804991dcd0f2c68ded9099e9d0f2964be7de0b31eff22440c0cad6f573c7fd", func := "supercargo/supercargolaw37.RateCopies", spec := "rateCopies", unfollowed := true, recurses := true, named := ["math/bits.divideError", "math/bits.overflowError"], plainKeys := false, apart := false, narrowed := true }
def RateCopiesUptoSaid : Prop := rateCopiesUptoRow.holds Try.pinned (OpenSpec.upto rateCopiesSpec)

/-- 'supercargolaw37.RateWorths', WHERE WHAT IT READS IS OF BULK AT MOST 1048576: true; the input reads as it did. -/
def rateWorthsUptoRow : OpenClaim := { program := "ytnalpielhpmnfaa", sum := "7e804991dcd0f2c68ded9099e9d0f2964be7de0b31eff22440c0cad6f573c7fd", func := "supercargo/supercargolaw37.RateWorths", spec := "rateWorths", unfollowed := true, recurses := true, named := ["math/bits.divideError", "math/bits.overflowError"], plainKeys := false, apart := false, narrowed := true }
def RateWorthsUptoSaid : Prop := rateWorthsUptoRow.holds Try.pinned (OpenSpec.upto rateWorthsSpec)

end Rows
end Go.Proofs.Ytnalpielhpmnfaa
