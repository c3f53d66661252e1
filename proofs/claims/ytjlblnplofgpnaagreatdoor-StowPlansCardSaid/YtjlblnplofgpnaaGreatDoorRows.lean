/-
  NARROWER THAN 'FOR EVERY INPUT', by the rows' own cells (each row's printed sentence says how): StowPlans: laid · StowRight: laid · StowKeeps: laid · StowSame: laid · StowAsPut: laid · StowMirrors: laid · StowUnloads: laid · StowLifts: laid.
  DERIVED. THE GIVEN ROWS OF THIS SEAT. 8 by the template 'for every input the law returns true; each argument reads behind the call as it read before'; 0 by the template 'total and deterministic' (their statements: YtjlblnplofgpnaaGreatDoorTotals.lean).
  GIVEN WITH THE SEED: the statements are not yours to turn. If you find one false, say at which input.
  Laid BY PROGRAM, IN A SANDBOX (cutbox-rows.mjs): the forced cells as the released guide's own fill.sh prints them over the translation 69bd265582c1ddcf… (all of the seat's roots in one cut). By AI agents, Wed Nov 11 2026. No macro, syntax, notation, axiom, sorry.
-/
import Derived.Test.YtjlblnplofgpnaaGreatDoorChecked
import GoSem.Claim
import GoSem.ClaimJoined
import GoSem.ClaimMapViews
import Derived.JoinedTies
import Derived.KernelRfl
namespace Go.Proofs.YtjlblnplofgpnaaGreatDoor
/- THE CELL 'sum', in the pinned program and in every row, IS THE sha256 OF THE DUMP (.gsa) THAT YtjlblnplofgpnaaGreatDoorProg.lean LOADS. Nothing in Lean hashes anything: it is a label: what it is worth is what the hold of that sum in a sandbox is worth. -/
noncomputable def Tryz.pinned : Pinned := { name := "ytjlblnplofgpnaagreatdoor", sum := "69bd265582c1ddcf2870798a2f79a97d1f6a0027f567dfa9eae7a7eb1054c665", checked := Tryz.checked }
namespace Rows
def none {H : Type} : Left H := { results := [], args := [] }

/- WHAT THE LISTED PACKAGE-LEVEL VARIABLES READ AS WHEN THE CALL BEGINS. Each datum BY PROGRAM (the guide's laid-datum.mjs) off the statement by which the dump's own 'gosem.cut.vars' lays the variable. In a bare row this is a premise. The card (YtjlblnplofgpnaaGreatDoorCards.lean) ties it to the program's text. -/
def laid_supercargo_goods_apart {H : Type} : DataW H := .agg [.lit (.int .i64 0), .lit (.int .i64 1020), .lit (.int .i64 40), .lit (.int .i64 288), .lit (.int .i64 288), .lit (.int .i64 320), .lit (.int .i64 0), .lit (.int .i64 512), .lit (.int .i64 0), .lit (.int .i64 0)]

/-- 'supercargolaw15.StowPlans': WHATEVER THE INPUT: true; the input reads as it did. -/
def stowPlansSpec : ChangeSpec := { name := "stowPlans", fn := fun _ => fun
  | [d1, d2] => { results := [.lit (.bool true)], args := [d1, d2] }
  | _ => none }
def stowPlansRow : OpenClaim := { program := "ytjlblnplofgpnaagreatdoor", sum := "69bd265582c1ddcf2870798a2f79a97d1f6a0027f567dfa9eae7a7eb1054c665", func := "supercargo/supercargolaw15.StowPlans", spec := "stowPlans", unfollowed := true, recurses := true, named := ["supercargo/goods.apart"], plainKeys := false, apart := false, laid := [("supercargo/goods.apart", laid_supercargo_goods_apart)] }
def StowPlansSaid : Prop := stowPlansRow.holds Tryz.pinned (OpenSpec.ofChange stowPlansSpec)

/-- ITS FALSE NEIGHBOUR: 'it returns false'. Refute it at one input. -/
def stowPlansWrong : ChangeSpec := { name := "stowPlans", fn := fun _ => fun
  | [d1, d2] => { results := [.lit (.bool false)], args := [d1, d2] }
  | _ => none }
def StowPlansWrongFalsely : Prop := stowPlansRow.holds Tryz.pinned (OpenSpec.ofChange stowPlansWrong)

/-- 'supercargolaw15.StowRight': WHATEVER THE INPUT: true; the input reads as it did. -/
def stowRightSpec : ChangeSpec := { name := "stowRight", fn := fun _ => fun
  | [d1, d2] => { results := [.lit (.bool true)], args := [d1, d2] }
  | _ => none }
def stowRightRow : OpenClaim := { program := "ytjlblnplofgpnaagreatdoor", sum := "69bd265582c1ddcf2870798a2f79a97d1f6a0027f567dfa9eae7a7eb1054c665", func := "supercargo/supercargolaw15.StowRight", spec := "stowRight", unfollowed := true, recurses := true, named := ["supercargo/goods.apart"], plainKeys := false, apart := false, laid := [("supercargo/goods.apart", laid_supercargo_goods_apart)] }
def StowRightSaid : Prop := stowRightRow.holds Tryz.pinned (OpenSpec.ofChange stowRightSpec)

/-- ITS FALSE NEIGHBOUR: 'it returns false'. Refute it at one input. -/
def stowRightWrong : ChangeSpec := { name := "stowRight", fn := fun _ => fun
  | [d1, d2] => { results := [.lit (.bool false)], args := [d1, d2] }
  | _ => none }
def StowRightWrongFalsely : Prop := stowRightRow.holds Tryz.pinned (OpenSpec.ofChange stowRightWrong)

/-- 'supercargolaw15.StowKeeps': WHATEVER THE INPUT: true; the input reads as it did. -/
def stowKeepsSpec : ChangeSpec := { name := "stowKeeps", fn := fun _ => fun
  | [d1, d2] => { results := [.lit (.bool true)], args := [d1, d2] }
  | _ => none }
def stowKeepsRow : OpenClaim := { program := "ytjlblnplofgpnaagreatdoor", sum := "69bd265582c1ddcf2870798a2f79a97d1f6a0027f567dfa9eae7a7eb1054c665", func := "supercargo/supercargolaw15.StowKeeps", spec := "stowKeeps", unfollowed := true, recurses := true, named := ["supercargo/goods.apart"], plainKeys := false, apart := false, laid := [("supercargo/goods.apart", laid_supercargo_goods_apart)] }
def StowKeepsSaid : Prop := stowKeepsRow.holds Tryz.pinned (OpenSpec.ofChange stowKeepsSpec)

/-- ITS FALSE NEIGHBOUR: 'it returns false'. Refute it at one input. -/
def stowKeepsWrong : ChangeSpec := { name := "stowKeeps", fn := fun _ => fun
  | [d1, d2] => { results := [.lit (.bool false)], args := [d1, d2] }
  | _ => none }
def StowKeepsWrongFalsely : Prop := stowKeepsRow.holds Tryz.pinned (OpenSpec.ofChange stowKeepsWrong)

/-- 'supercargolaw15.StowSame': WHATEVER THE INPUT: true; the input reads as it did. -/
def stowSameSpec : ChangeSpec := { name := "stowSame", fn := fun _ => fun
  | [d1, d2, d3, d4] => { results := [.lit (.bool true)], args := [d1, d2, d3, d4] }
  | _ => none }
def stowSameRow : OpenClaim := { program := "ytjlblnplofgpnaagreatdoor", sum := "69bd265582c1ddcf2870798a2f79a97d1f6a0027f567dfa9eae7a7eb1054c665", func := "supercargo/supercargolaw15.StowSame", spec := "stowSame", unfollowed := true, recurses := true, named := ["supercargo/goods.apart"], plainKeys := false, apart := false, laid := [("supercargo/goods.apart", laid_supercargo_goods_apart)] }
def StowSameSaid : Prop := stowSameRow.holds Tryz.pinned (OpenSpec.ofChange stowSameSpec)

/-- ITS FALSE NEIGHBOUR: 'it returns false'. Refute it at one input. -/
def stowSameWrong : ChangeSpec := { name := "stowSame", fn := fun _ => fun
  | [d1, d2, d3, d4] => { results := [.lit (.bool false)], args := [d1, d2, d3, d4] }
  | _ => none }
def StowSameWrongFalsely : Prop := stowSameRow.holds Tryz.pinned (OpenSpec.ofChange stowSameWrong)

/-- 'supercargolaw15.StowAsPut': WHATEVER THE INPUT: true; the input reads as it did. -/
def stowAsPutSpec : ChangeSpec := { name := "stowAsPut", fn := fun _ => fun
  | [d1, d2] => { results := [.lit (.bool true)], args := [d1, d2] }
  | _ => none }
def stowAsPutRow : OpenClaim := { program := "ytjlblnplofgpnaagreatdoor", sum := "69bd265582c1ddcf2870798a2f79a97d1f6a0027f567dfa9eae7a7eb1054c665", func := "supercargo/supercargolaw15.StowAsPut", spec := "stowAsPut", unfollowed := true, recurses := true, named := ["supercargo/goods.apart"], plainKeys := false, apart := false, laid := [("supercargo/goods.apart", laid_supercargo_goods_apart)] }
def StowAsPutSaid : Prop := stowAsPutRow.holds Tryz.pinned (OpenSpec.ofChange stowAsPutSpec)

/-- ITS FALSE NEIGHBOUR: 'it returns false'. Refute it at one input. -/
def stowAsPutWrong : ChangeSpec := { name := "stowAsPut", fn := fun _ => fun
  | [d1, d2] => { results := [.lit (.bool false)], args := [d1, d2] }
  | _ => none }
def StowAsPutWrongFalsely : Prop := stowAsPutRow.holds Tryz.pinned (OpenSpec.ofChange stowAsPutWrong)

/-- 'supercargolaw15.StowMirrors': WHATEVER THE INPUT: true; the input reads as it did. -/
def stowMirrorsSpec : ChangeSpec := { name := "stowMirrors", fn := fun _ => fun
  | [d1, d2, d3, d4] => { results := [.lit (.bool true)], args := [d1, d2, d3, d4] }
  | _ => none }
def stowMirrorsRow : OpenClaim := { program := "ytjlblnplofgpnaagreatdoor", sum := "69bd265582c1ddcf2870798a2f79a97d1f6a0027f567dfa9eae7a7eb1054c665", func := "supercargo/supercargolaw15.StowMirrors", spec := "stowMirrors", unfollowed := true, recurses := true, named := ["supercargo/goods.apart"], plainKeys := false, apart := false, laid := [("supercargo/goods.apart", laid_supercargo_goods_apart)] }
def StowMirrorsSaid : Prop := stowMirrorsRow.holds Tryz.pinned (OpenSpec.ofChange stowMirrorsSpec)

/-- ITS FALSE NEIGHBOUR: 'it returns false'. Refute it at one input. -/
def stowMirrorsWrong : ChangeSpec := { name := "stowMirrors", fn := fun _ => fun
  | [d1, d2, d3, d4] => { results := [.lit (.bool false)], args := [d1, d2, d3, d4] }
  | _ => none }
def StowMirrorsWrongFalsely : Prop := stowMirrorsRow.holds Tryz.pinned (OpenSpec.ofChange stowMirrorsWrong)

/-- 'supercargolaw15.StowUnloads': WHATEVER THE INPUT: true; the input reads as it did. -/
def stowUnloadsSpec : ChangeSpec := { name := "stowUnloads", fn := fun _ => fun
  | [d1, d2, d3] => { results := [.lit (.bool true)], args := [d1, d2, d3] }
  | _ => none }
def stowUnloadsRow : OpenClaim := { program := "ytjlblnplofgpnaagreatdoor", sum := "69bd265582c1ddcf2870798a2f79a97d1f6a0027f567dfa9eae7a7eb1054c665", func := "supercargo/supercargolaw15.StowUnloads", spec := "stowUnloads", unfollowed := true, recurses := true, named := ["supercargo/goods.apart"], plainKeys := false, apart := false, laid := [("supercargo/goods.apart", laid_supercargo_goods_apart)] }
def StowUnloadsSaid : Prop := stowUnloadsRow.holds Tryz.pinned (OpenSpec.ofChange stowUnloadsSpec)

/-- ITS FALSE NEIGHBOUR: 'it returns false'. Refute it at one input. -/
def stowUnloadsWrong : ChangeSpec := { name := "stowUnloads", fn := fun _ => fun
  | [d1, d2, d3] => { results := [.lit (.bool false)], args := [d1, d2, d3] }
  | _ => none }
def StowUnloadsWrongFalsely : Prop := stowUnloadsRow.holds Tryz.pinned (OpenSpec.ofChange stowUnloadsWrong)

/-- 'supercargolaw15.StowLifts': WHATEVER THE INPUT: true; the input reads as it did. -/
def stowLiftsSpec : ChangeSpec := { name := "stowLifts", fn := fun _ => fun
  | [d1, d2, d3] => { results := [.lit (.bool true)], args := [d1, d2, d3] }
  | _ => none }
def stowLiftsRow : OpenClaim := { program := "ytjlblnplofgpnaagreatdoor", sum := "69bd265582c1ddcf2870798a2f79a97d1f6a0027f567dfa9eae7a7eb1054c665", func := "supercargo/supercargolaw15.StowLifts", spec := "stowLifts", unfollowed := true, recurses := true, named := ["supercargo/goods.apart"], plainKeys := false, apart := false, laid := [("supercargo/goods.apart", laid_supercargo_goods_apart)] }
def StowLiftsSaid : Prop := stowLiftsRow.holds Tryz.pinned (OpenSpec.ofChange stowLiftsSpec)

/-- ITS FALSE NEIGHBOUR: 'it returns false'. Refute it at one input. -/
def stowLiftsWrong : ChangeSpec := { name := "stowLifts", fn := fun _ => fun
  | [d1, d2, d3] => { results := [.lit (.bool false)], args := [d1, d2, d3] }
  | _ => none }
def StowLiftsWrongFalsely : Prop := stowLiftsRow.holds Tryz.pinned (OpenSpec.ofChange stowLiftsWrong)

/- THE SECOND FORM. 'bulk': how many values and letters a reading holds, each counted each time it is reached (what is shared counts as often as it is met; a slice's spare places count too). A statement '..UptoSaid' is the law's where the arguments, and the package variables that the reading takes, are together of bulk at most 1048576: NARROWER than '..Said'. Prove '..Said' where nothing that the law and all that it calls make is longer than what came in: it says more and counts as full. Else prove '..UptoSaid'. A law counts once. -/
mutual
def uptoBulk {H : Type} : DataW H → Nat
  | .lit (.string bytes) => bytes.length + 1
  | .lit _ => 1
  | .nil => 1
  | .ptr d => uptoBulk d + 1
  | .slice elems spare => uptoBulkAll elems + uptoBulkAll spare + 1
  | .agg parts => uptoBulkAll parts + 1
  | .iface _ d => uptoBulk d + 1
  | .map entries => uptoBulkEntries entries + 1
  | .held _ => 1
def uptoBulkAll {H : Type} : List (DataW H) → Nat
  | [] => 0
  | d :: r => uptoBulk d + uptoBulkAll r
def uptoBulkEntries {H : Type} : List (Lit × DataW H) → Nat
  | [] => 0
  | x :: r => uptoBulkEntry x + uptoBulkEntries r
def uptoBulkEntry {H : Type} : Lit × DataW H → Nat
  | (.string bytes, d) => bytes.length + uptoBulk d + 1
  | (_, d) => uptoBulk d + 1
 end
def uptoSmall : (H : Type) → List (DataW H) → Bool := fun _ ds => decide (uptoBulkAll ds ≤ 1048576)
def OpenSpec.upto (s : _root_.Go.ChangeSpec) : _root_.Go.OpenSpec := { _root_.Go.OpenSpec.ofChange s with cond := some uptoSmall }

/-- 'supercargolaw15.StowPlans', WHERE WHAT IT READS IS OF BULK AT MOST 1048576: true; the input reads as it did. -/
def stowPlansUptoRow : OpenClaim := { program := "ytjlblnplofgpnaagreatdoor", sum := "69bd265582c1ddcf2870798a2f79a97d1f6a0027f567dfa9eae7a7eb1054c665", func := "supercargo/supercargolaw15.StowPlans", spec := "stowPlans", unfollowed := true, recurses := true, named := ["supercargo/goods.apart"], plainKeys := false, apart := false, laid := [("supercargo/goods.apart", laid_supercargo_goods_apart)], narrowed := true }
def StowPlansUptoSaid : Prop := stowPlansUptoRow.holds Tryz.pinned (OpenSpec.upto stowPlansSpec)

/-- 'supercargolaw15.StowRight', WHERE WHAT IT READS IS OF BULK AT MOST 1048576: true; the input reads as it did. -/
def stowRightUptoRow : OpenClaim := { program := "ytjlblnplofgpnaagreatdoor", sum := "69bd265582c1ddcf2870798a2f79a97d1f6a0027f567dfa9eae7a7eb1054c665", func := "supercargo/supercargolaw15.StowRight", spec := "stowRight", unfollowed := true, recurses := true, named := ["supercargo/goods.apart"], plainKeys := false, apart := false, laid := [("supercargo/goods.apart", laid_supercargo_goods_apart)], narrowed := true }
def StowRightUptoSaid : Prop := stowRightUptoRow.holds Tryz.pinned (OpenSpec.upto stowRightSpec)

/-- 'supercargolaw15.StowKeeps', WHERE WHAT IT READS IS OF BULK AT MOST 1048576: true; the input reads as it did. -/
def stowKeepsUptoRow : OpenClaim := { program := "ytjlblnplofgpnaagreatdoor", sum := "69bd265582c1ddcf2870798a2f79a97d1f6a0027f567dfa9eae7a7eb1054c665", func := "supercargo/supercargolaw15.StowKeeps", spec := "stowKeeps", unfollowed := true, recurses := true, named := ["supercargo/goods.apart"], plainKeys := false, apart := false, laid := [("supercargo/goods.apart", laid_supercargo_goods_apart)], narrowed := true }
def StowKeepsUptoSaid : Prop := stowKeepsUptoRow.holds Tryz.pinned (OpenSpec.upto stowKeepsSpec)

/-- 'supercargolaw15.StowSame', WHERE WHAT IT READS IS OF BULK AT MOST 1048576: true; the input reads as it did. -/
def stowSameUptoRow : OpenClaim := { program := "ytjlblnplofgpnaagreatdoor", sum := "69bd265582c1ddcf2870798a2f79a97d1f6a0027f567dfa9eae7a7eb1054c665", func := "supercargo/supercargolaw15.StowSame", spec := "stowSame", unfollowed := true, recurses := true, named := ["supercargo/goods.apart"], plainKeys := false, apart := false, laid := [("supercargo/goods.apart", laid_supercargo_goods_apart)], narrowed := true }
def StowSameUptoSaid : Prop := stowSameUptoRow.holds Tryz.pinned (OpenSpec.upto stowSameSpec)

/-- 'supercargolaw15.StowAsPut', WHERE WHAT IT READS IS OF BULK AT MOST 1048576: true; the input reads as it did. -/
def stowAsPutUptoRow : OpenClaim := { program := "ytjlblnplofgpnaagreatdoor", sum := "69bd265582c1ddcf2870798a2f79a97d1f6a0027f567dfa9eae7a7eb1054c665", func := "supercargo/supercargolaw15.StowAsPut", spec := "stowAsPut", unfollowed := true, recurses := true, named := ["supercargo/goods.apart"], plainKeys := false, apart := false, laid := [("supercargo/goods.apart", laid_supercargo_goods_apart)], narrowed := true }
def StowAsPutUptoSaid : Prop := stowAsPutUptoRow.holds Tryz.pinned (OpenSpec.upto stowAsPutSpec)

/-- 'supercargolaw15.StowMirrors', WHERE WHAT IT READS IS OF BULK AT MOST 1048576: true; the input reads as it did. -/
def stowMirrorsUptoRow : OpenClaim := { program := "ytjlblnplofgpnaagreatdoor", sum := "69bd265582c1ddcf2870798a2f79a97d1f6a0027f567dfa9eae7a7eb1054c665", func := "supercargo/supercargolaw15.StowMirrors", spec := "stowMirrors", unfollowed := true, recurses := true, named := ["supercargo/goods.apart"], plainKeys := false, apart := false, laid := [("supercargo/goods.apart", laid_supercargo_goods_apart)], narrowed := true }
def StowMirrorsUptoSaid : Prop := stowMirrorsUptoRow.holds Tryz.pinned (OpenSpec.upto stowMirrorsSpec)

/-- 'supercargolaw15.StowUnloads', WHERE WHAT IT READS IS OF BULK AT MOST 1048576: true; the input reads as it did. -/
def stowUnloadsUptoRow : OpenClaim := { program := "ytjlblnplofgpnaagreatdoor", sum := "69bd265582c1ddcf2870798a2f79a97d1f6a0027f567dfa9eae7a7eb1054c665", func := "supercargo/supercargolaw15.StowUnloads", spec := "stowUnloads", unfollowed := true, recurses := true, named := ["supercargo/goods.apart"], plainKeys := false, apart := false, laid := [("supercargo/goods.apart", laid_supercargo_goods_apart)], narrowed := true }
def StowUnloadsUptoSaid : Prop := stowUnloadsUptoRow.holds Tryz.pinned (OpenSpec.upto stowUnloadsSpec)

/-- 'supercargolaw15.StowLifts', WHERE WHAT IT READS IS OF BULK AT MOST 1048576: true; the input reads as it did. -/
def stowLiftsUptoRow : OpenClaim := { program := "ytjlblnplofgpnaagreatdoor", sum := "69bd265582c1ddcf2870798a2f79a97d1f6a0027f567dfa9eae7a7eb1054c665", func := "supercargo/supercargolaw15.StowLifts", spec := "stowLifts", unfollowed := true, recurses := true, named := ["supercargo/goods.apart"], plainKeys := false, apart := false, laid := [("supercargo/goods.apart", laid_supercargo_goods_apart)], narrowed := true }
def StowLiftsUptoSaid : Prop := stowLiftsUptoRow.holds Tryz.pinned (OpenSpec.upto stowLiftsSpec)

end Rows
end Go.Proofs.YtjlblnplofgpnaaGreatDoor
