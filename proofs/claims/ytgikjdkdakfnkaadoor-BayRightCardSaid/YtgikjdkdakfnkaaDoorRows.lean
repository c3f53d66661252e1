/-
  NARROWER THAN 'FOR EVERY INPUT', by the rows' own cells (each row's printed sentence says how): BayPlays: laid · BayRight: laid · BayBack: laid · BayCopies: laid · BayEmpties: laid · BayOver: laid.
  DERIVED. THE GIVEN ROWS OF THIS SEAT. 6 by the template 'for every input the law returns true; each argument reads behind the call as it read before'; 0 by the template 'total and deterministic' (their statements: YtgikjdkdakfnkaaDoorTotals.lean).
  GIVEN WITH THE SEED: the statements are not yours to turn. If you find one false, say at which input.
  Laid BY PROGRAM, IN A SANDBOX (cutbox-rows.mjs): the forced cells as the released guide's own fill.sh prints them over the translation 7e6b87d181e9ec2a… (all of the seat's roots in one cut). By AI agents, Wed Nov 11 2026. No macro, syntax, notation, axiom, sorry.
-/
import Derived.Test.YtgikjdkdakfnkaaDoorChecked
import GoSem.Claim
import GoSem.ClaimJoined
import GoSem.ClaimMapViews
import Derived.JoinedTies
import Derived.KernelRfl
namespace Go.Proofs.YtgikjdkdakfnkaaDoor
/- THE CELL 'sum', in the pinned program and in every row, IS THE sha256 OF THE DUMP (.gsa) THAT YtgikjdkdakfnkaaDoorProg.lean LOADS. Nothing in Lean hashes anything: it is a label: what it is worth is what the hold of that sum in a sandbox is worth. -/
noncomputable def Tryd.pinned : Pinned := { name := "ytgikjdkdakfnkaadoor", sum := "7e6b87d181e9ec2a1ff9c364a0c2899e6aa3e93491979ad211ece788a39e12e9", checked := Tryd.checked }
namespace Rows
def none {H : Type} : Left H := { results := [], args := [] }

/- WHAT THE LISTED PACKAGE-LEVEL VARIABLES READ AS WHEN THE CALL BEGINS. Each datum BY PROGRAM (the guide's laid-datum.mjs) off the statement by which the dump's own 'gosem.cut.vars' lays the variable. In a bare row this is a premise. The card (YtgikjdkdakfnkaaDoorCards.lean) ties it to the program's text. -/
def laid_supercargo_goods_apart {H : Type} : DataW H := .agg [.lit (.int .i64 0), .lit (.int .i64 1020), .lit (.int .i64 40), .lit (.int .i64 288), .lit (.int .i64 288), .lit (.int .i64 320), .lit (.int .i64 0), .lit (.int .i64 512), .lit (.int .i64 0), .lit (.int .i64 0)]

/-- 'supercargolaw13.BayPlays': WHATEVER THE INPUT: true; the input reads as it did. -/
def bayPlaysSpec : ChangeSpec := { name := "bayPlays", fn := fun _ => fun
  | [d1, d2, d3, d4, d5] => { results := [.lit (.bool true)], args := [d1, d2, d3, d4, d5] }
  | _ => none }
def bayPlaysRow : OpenClaim := { program := "ytgikjdkdakfnkaadoor", sum := "7e6b87d181e9ec2a1ff9c364a0c2899e6aa3e93491979ad211ece788a39e12e9", func := "supercargo/supercargolaw13.BayPlays", spec := "bayPlays", inPlace := ["maps.clone"], unfollowed := true, recurses := true, named := ["supercargo/goods.apart"], plainKeys := false, apart := false, laid := [("supercargo/goods.apart", laid_supercargo_goods_apart)] }
def BayPlaysSaid : Prop := bayPlaysRow.holds Tryd.pinned (OpenSpec.ofChange bayPlaysSpec)

/-- ITS FALSE NEIGHBOUR: 'it returns false'. Refute it at one input. -/
def bayPlaysWrong : ChangeSpec := { name := "bayPlays", fn := fun _ => fun
  | [d1, d2, d3, d4, d5] => { results := [.lit (.bool false)], args := [d1, d2, d3, d4, d5] }
  | _ => none }
def BayPlaysWrongFalsely : Prop := bayPlaysRow.holds Tryd.pinned (OpenSpec.ofChange bayPlaysWrong)

/-- 'supercargolaw13.BayRight': WHATEVER THE INPUT: true; the input reads as it did. -/
def bayRightSpec : ChangeSpec := { name := "bayRight", fn := fun _ => fun
  | [d1, d2] => { results := [.lit (.bool true)], args := [d1, d2] }
  | _ => none }
def bayRightRow : OpenClaim := { program := "ytgikjdkdakfnkaadoor", sum := "7e6b87d181e9ec2a1ff9c364a0c2899e6aa3e93491979ad211ece788a39e12e9", func := "supercargo/supercargolaw13.BayRight", spec := "bayRight", inPlace := ["maps.clone"], unfollowed := true, recurses := true, named := ["supercargo/goods.apart"], plainKeys := false, apart := false, laid := [("supercargo/goods.apart", laid_supercargo_goods_apart)] }
def BayRightSaid : Prop := bayRightRow.holds Tryd.pinned (OpenSpec.ofChange bayRightSpec)

/-- ITS FALSE NEIGHBOUR: 'it returns false'. Refute it at one input. -/
def bayRightWrong : ChangeSpec := { name := "bayRight", fn := fun _ => fun
  | [d1, d2] => { results := [.lit (.bool false)], args := [d1, d2] }
  | _ => none }
def BayRightWrongFalsely : Prop := bayRightRow.holds Tryd.pinned (OpenSpec.ofChange bayRightWrong)

/-- 'supercargolaw13.BayBack': WHATEVER THE INPUT: true; the input reads as it did. -/
def bayBackSpec : ChangeSpec := { name := "bayBack", fn := fun _ => fun
  | [d1, d2, d3] => { results := [.lit (.bool true)], args := [d1, d2, d3] }
  | _ => none }
def bayBackRow : OpenClaim := { program := "ytgikjdkdakfnkaadoor", sum := "7e6b87d181e9ec2a1ff9c364a0c2899e6aa3e93491979ad211ece788a39e12e9", func := "supercargo/supercargolaw13.BayBack", spec := "bayBack", inPlace := ["maps.clone"], unfollowed := true, recurses := true, named := ["supercargo/goods.apart"], plainKeys := false, apart := false, laid := [("supercargo/goods.apart", laid_supercargo_goods_apart)] }
def BayBackSaid : Prop := bayBackRow.holds Tryd.pinned (OpenSpec.ofChange bayBackSpec)

/-- ITS FALSE NEIGHBOUR: 'it returns false'. Refute it at one input. -/
def bayBackWrong : ChangeSpec := { name := "bayBack", fn := fun _ => fun
  | [d1, d2, d3] => { results := [.lit (.bool false)], args := [d1, d2, d3] }
  | _ => none }
def BayBackWrongFalsely : Prop := bayBackRow.holds Tryd.pinned (OpenSpec.ofChange bayBackWrong)

/-- 'supercargolaw13.BayCopies': WHATEVER THE INPUT: true; the input reads as it did. -/
def bayCopiesSpec : ChangeSpec := { name := "bayCopies", fn := fun _ => fun
  | [d1, d2, d3] => { results := [.lit (.bool true)], args := [d1, d2, d3] }
  | _ => none }
def bayCopiesRow : OpenClaim := { program := "ytgikjdkdakfnkaadoor", sum := "7e6b87d181e9ec2a1ff9c364a0c2899e6aa3e93491979ad211ece788a39e12e9", func := "supercargo/supercargolaw13.BayCopies", spec := "bayCopies", inPlace := ["maps.clone"], unfollowed := true, recurses := true, named := ["supercargo/goods.apart"], plainKeys := false, apart := false, laid := [("supercargo/goods.apart", laid_supercargo_goods_apart)] }
def BayCopiesSaid : Prop := bayCopiesRow.holds Tryd.pinned (OpenSpec.ofChange bayCopiesSpec)

/-- ITS FALSE NEIGHBOUR: 'it returns false'. Refute it at one input. -/
def bayCopiesWrong : ChangeSpec := { name := "bayCopies", fn := fun _ => fun
  | [d1, d2, d3] => { results := [.lit (.bool false)], args := [d1, d2, d3] }
  | _ => none }
def BayCopiesWrongFalsely : Prop := bayCopiesRow.holds Tryd.pinned (OpenSpec.ofChange bayCopiesWrong)

/-- 'supercargolaw13.BayEmpties': WHATEVER THE INPUT: true; the input reads as it did. -/
def bayEmptiesSpec : ChangeSpec := { name := "bayEmpties", fn := fun _ => fun
  | [d1, d2] => { results := [.lit (.bool true)], args := [d1, d2] }
  | _ => none }
def bayEmptiesRow : OpenClaim := { program := "ytgikjdkdakfnkaadoor", sum := "7e6b87d181e9ec2a1ff9c364a0c2899e6aa3e93491979ad211ece788a39e12e9", func := "supercargo/supercargolaw13.BayEmpties", spec := "bayEmpties", inPlace := ["maps.clone"], unfollowed := true, recurses := true, named := ["supercargo/goods.apart"], plainKeys := false, apart := false, laid := [("supercargo/goods.apart", laid_supercargo_goods_apart)] }
def BayEmptiesSaid : Prop := bayEmptiesRow.holds Tryd.pinned (OpenSpec.ofChange bayEmptiesSpec)

/-- ITS FALSE NEIGHBOUR: 'it returns false'. Refute it at one input. -/
def bayEmptiesWrong : ChangeSpec := { name := "bayEmpties", fn := fun _ => fun
  | [d1, d2] => { results := [.lit (.bool false)], args := [d1, d2] }
  | _ => none }
def BayEmptiesWrongFalsely : Prop := bayEmptiesRow.holds Tryd.pinned (OpenSpec.ofChange bayEmptiesWrong)

/-- 'supercargolaw13.BayOver': WHATEVER THE INPUT: true; the input reads as it did. -/
def bayOverSpec : ChangeSpec := { name := "bayOver", fn := fun _ => fun
  | [d1, d2, d3] => { results := [.lit (.bool true)], args := [d1, d2, d3] }
  | _ => none }
def bayOverRow : OpenClaim := { program := "ytgikjdkdakfnkaadoor", sum := "7e6b87d181e9ec2a1ff9c364a0c2899e6aa3e93491979ad211ece788a39e12e9", func := "supercargo/supercargolaw13.BayOver", spec := "bayOver", inPlace := ["maps.clone"], unfollowed := true, recurses := true, named := ["supercargo/goods.apart"], plainKeys := false, apart := false, laid := [("supercargo/goods.apart", laid_supercargo_goods_apart)] }
def BayOverSaid : Prop := bayOverRow.holds Tryd.pinned (OpenSpec.ofChange bayOverSpec)

/-- ITS FALSE NEIGHBOUR: 'it returns false'. Refute it at one input. -/
def bayOverWrong : ChangeSpec := { name := "bayOver", fn := fun _ => fun
  | [d1, d2, d3] => { results := [.lit (.bool false)], args := [d1, d2, d3] }
  | _ => none }
def BayOverWrongFalsely : Prop := bayOverRow.holds Tryd.pinned (OpenSpec.ofChange bayOverWrong)

/- THE SECOND FORM. 'bulk': how many values and letters a reading holds, each counted each time it is reached (what is shared counts as often as it is met; a slice's spare places count too). A statement '..UptoSaid' is the law's where the arguments, and the package variables that the reading takes, are together of bulk at most 1048576: NARROWER than '..Said'. Prove '..Said' where nothing that the law and all that it calls make is longer than what came in: it says more and counts as full. Else prove '..UptoSaid'. A law counts once. -/
mutual
def uptoBulk {H : Type} : DataW H → Nat
  | .lit (.string bytes) => bytes.length + 1
  | .lit _ => 1
  | .nil => 1
  | .ptr d => uptoBulk d + 1
  | .slice elems spare => uptoBulkAll elems + uptoBulkAll spare + 1
  | .agg parts => uptoBulkAll parts + 1
  | .iface _ d => uptoBulk d + 1
  | .map entries => uptoBulkEntries entries + 1
  | .held _ => 1
def uptoBulkAll {H : Type} : List (DataW H) → Nat
  | [] => 0
  | d :: r => uptoBulk d + uptoBulkAll r
def uptoBulkEntries {H : Type} : List (Lit × DataW H) → Nat
  | [] => 0
  | x :: r => uptoBulkEntry x + uptoBulkEntries r
def uptoBulkEntry {H : Type} : Lit × DataW H → Nat
  | (.string bytes, d) => bytes.length + uptoBulk d + 1
  | (_, d) => uptoBulk d + 1
 end
def uptoSmall : (H : Type) → List (DataW H) → Bool := fun _ ds => decide (uptoBulkAll ds ≤ 1048576)
def OpenSpec.upto (s : _root_.Go.ChangeSpec) : _root_.Go.OpenSpec := { _root_.Go.OpenSpec.ofChange s with cond := some uptoSmall }

/-- 'supercargolaw13.BayPlays', WHERE WHAT IT READS IS OF BULK AT MOST 1048576: true; the input reads as it did. -/
def bayPlaysUptoRow : OpenClaim := { program := "ytgikjdkdakfnkaadoor", sum := "7e6b87d181e9ec2a1ff9c364a0c2899e6aa3e93491979ad211ece788a39e12e9", func := "supercargo/supercargolaw13.BayPlays", spec := "bayPlays", inPlace := ["maps.clone"], unfollowed := true, recurses := true, named := ["supercargo/goods.apart"], plainKeys := false, apart := false, laid := [("supercargo/goods.apart", laid_supercargo_goods_apart)], narrowed := true }
def BayPlaysUptoSaid : Prop := bayPlaysUptoRow.holds Tryd.pinned (OpenSpec.upto bayPlaysSpec)

/-- 'supercargolaw13.BayRight', WHERE WHAT IT READS IS OF BULK AT MOST 1048576: true; the input reads as it did. -/
def bayRightUptoRow : OpenClaim := { program := "ytgikjdkdakfnkaadoor", sum := "7e6b87d181e9ec2a1ff9c364a0c2899e6aa3e93491979ad211ece788a39e12e9", func := "supercargo/supercargolaw13.BayRight", spec := "bayRight", inPlace := ["maps.clone"], unfollowed := true, recurses := true, named := ["supercargo/goods.apart"], plainKeys := false, apart := false, laid := [("supercargo/goods.apart", laid_supercargo_goods_apart)], narrowed := true }
def BayRightUptoSaid : Prop := bayRightUptoRow.holds Tryd.pinned (OpenSpec.upto bayRightSpec)

/-- 'supercargolaw13.BayBack', WHERE WHAT IT READS IS OF BULK AT MOST 1048576: true; the input reads as it did. -/
def bayBackUptoRow : OpenClaim := { program := "ytgikjdkdakfnkaadoor", sum := "7e6b87d181e9ec2a1ff9c364a0c2899e6aa3e93491979ad211ece788a39e12e9", func := "supercargo/supercargolaw13.BayBack", spec := "bayBack", inPlace := ["maps.clone"], unfollowed := true, recurses := true, named := ["supercargo/goods.apart"], plainKeys := false, apart := false, laid := [("supercargo/goods.apart", laid_supercargo_goods_apart)], narrowed := true }
def BayBackUptoSaid : Prop := bayBackUptoRow.holds Tryd.pinned (OpenSpec.upto bayBackSpec)

/-- 'supercargolaw13.BayCopies', WHERE WHAT IT READS IS OF BULK AT MOST 1048576: true; the input reads as it did. -/
def bayCopiesUptoRow : OpenClaim := { program := "ytgikjdkdakfnkaadoor", sum := "7e6b87d181e9ec2a1ff9c364a0c2899e6aa3e93491979ad211ece788a39e12e9", func := "supercargo/supercargolaw13.BayCopies", spec := "bayCopies", inPlace := ["maps.clone"], unfollowed := true, recurses := true, named := ["supercargo/goods.apart"], plainKeys := false, apart := false, laid := [("supercargo/goods.apart", laid_supercargo_goods_apart)], narrowed := true }
def BayCopiesUptoSaid : Prop := bayCopiesUptoRow.holds Tryd.pinned (OpenSpec.upto bayCopiesSpec)

/-- 'supercargolaw13.BayEmpties', WHERE WHAT IT READS IS OF BULK AT MOST 1048576: true; the input reads as it did. -/
def bayEmptiesUptoRow : OpenClaim := { program := "ytgikjdkdakfnkaadoor", sum := "7e6b87d181e9ec2a1ff9c364a0c2899e6aa3e93491979ad211ece788a39e12e9", func := "supercargo/supercargolaw13.BayEmpties", spec := "bayEmpties", inPlace := ["maps.clone"], unfollowed := true, recurses := true, named := ["supercargo/goods.apart"], plainKeys := false, apart := false, laid := [("supercargo/goods.apart", laid_supercargo_goods_apart)], narrowed := true }
def BayEmptiesUptoSaid : Prop := bayEmptiesUptoRow.holds Tryd.pinned (OpenSpec.upto bayEmptiesSpec)

/-- 'supercargolaw13.BayOver', WHERE WHAT IT READS IS OF BULK AT MOST 1048576: true; the input reads as it did. -/
def bayOverUptoRow : OpenClaim := { program := "ytgikjdkdakfnkaadoor", sum := "7e6b87d181e9ec2a1ff9c364a0c2899e6aa3e93491979ad211ece788a39e12e9", func := "supercargo/supercargolaw13.BayOver", spec := "bayOver", inPlace := ["maps.clone"], unfollowed := true, recurses := true, named := ["supercargo/goods.apart"], plainKeys := false, apart := false, laid := [("supercargo/goods.apart", laid_supercargo_goods_apart)], narrowed := true }
def BayOverUptoSaid : Prop := bayOverUptoRow.holds Tryd.pinned (OpenSpec.upto bayOverSpec)

end Rows
end Go.Proofs.YtgikjdkdakfnkaaDoor
