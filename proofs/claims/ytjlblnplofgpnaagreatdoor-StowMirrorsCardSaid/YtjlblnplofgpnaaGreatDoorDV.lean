import Derived.Test.YtjlblnplofgpnaaGreatDoorDL
import Derived.Test.YtjlblnplofgpnaaGreatDoorDP
import Derived.Test.YtjlblnplofgpnaaGreatDoorAE
namespace Go.Proofs.YtjlblnplofgpnaaGreatDoor
open Go.SL
/-! ### the document's layer 14: Moments, Margins; layer 15: Lean, Safe, ahead, less -/
end Go.Proofs.YtjlblnplofgpnaaGreatDoor
namespace Go.Proofs.YtjlblnplofgpnaaGreatDoor
open Go.SL
/-! ### the document's Order, Sorted, put -/
theorem lsort_snoc (L : List Load) (x : Load) : lsort (L ++ [x]) = insD x (lsort L) := by unfold lsort; rw [List.foldl_append]; rfl
theorem lsort_len (L : List Load) : (lsort L).length = L.length := by
  induction L using lsnoc with
  | h0 => rfl
  | h1 L x ih => rw [lsort_snoc, (insD_perm x _).length_eq, List.length_cons, ih, List.length_append]; rfl
end Go.Proofs.YtjlblnplofgpnaaGreatDoor
